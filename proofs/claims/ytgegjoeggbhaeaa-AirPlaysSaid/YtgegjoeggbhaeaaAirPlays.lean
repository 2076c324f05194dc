/-
  AirPlays: for any list of steps (raw kinds, ends, numbers and bytes), the air and the document's answer agree step by step; longer lists and longer datagrams are passed over by the law itself; no condition.
  The frame of the row: a slice of structs, with a slice of bytes in each, is opened cell by cell; the walk is plays_row (A25).
-/
import Derived.Test.YtgegjoeggbhaeaaA25
import Derived.WalkKit
import Derived.ProofKit
import Derived.OpenShut
import Derived.ShutString
import Derived.ChangeOld
import Derived.Below
import Derived.SizedLaws
import Derived.Deep.Slices
import Derived.Deep.Fields
import Derived.ChangeSame
namespace Go.Proofs.Ytgegjoeggbhaeaa.airPlays
open Go.ChangeShapes Go.WideShapes Go.ChangeAt Go.RowKit Go.Deep
open Go.ChangeMaps (open_string shut_string)
set_option linter.unusedVariables false

theorem own : ownKnob Try.prog.godebug = none := by kernel_rfl
theorem laidOut : laidOutB Try.prog = true := by kernel_rfl

section
variable {H : Type} {enc : TypeId × Value → H} {w : World} {base : Nat} {spare : Nat → Bool} {held : Bool}

/-- Of a list of numbers below n, each with something: the list of these. -/
theorem list_of {α : Type} (Q : Nat → α → Prop) : ∀ n, (∀ i, i < n → ∃ e, Q i e) → ∃ es : List α, es.length = n ∧ ∀ i e, es[i]? = some e → Q i e
  | 0, _ => ⟨[], rfl, fun i e h => by simp at h⟩
  | n + 1, h => by
    obtain ⟨es, hl, hq⟩ := list_of Q n fun i hi => h i (by omega)
    obtain ⟨e, he⟩ := h n (by omega)
    refine ⟨es ++ [e], by simp [hl], fun i x hx => ?_⟩
    rcases Nat.lt_or_ge i n with hi | hi
    · rw [List.getElem?_append_left (by omega)] at hx
      exact hq i x hx
    · rw [List.getElem?_append_right (by omega)] at hx
      have h0 : i - es.length = 0 := by
        rcases Nat.eq_zero_or_pos (i - es.length) with h0 | h0
        · exact h0
        · rw [List.getElem?_eq_none (by simp; omega)] at hx; cases hx
      rw [h0] at hx
      simp at hx
      subst hx
      obtain rfl : i = n := by omega
      exact he

theorem flat_inv (os : List OpRow) : ∀ (j : Nat) (u : Value), (os.flatMap OpRow.enc)[j]? = some u → ∃ i x r, j = i * 4 + r ∧ os[i]? = some x ∧ x.enc[r]? = some u := by
  induction os with
  | nil => intro j u h; simp at h
  | cons a l ih =>
    intro j u h
    rw [List.flatMap_cons] at h
    rcases Nat.lt_or_ge j 4 with hj | hj
    · rw [List.getElem?_append_left (by rw [OpRow.enc_len]; exact hj)] at h
      exact ⟨0, a, j, by omega, by simp, h⟩
    · rw [List.getElem?_append_right (by rw [OpRow.enc_len]; exact hj), OpRow.enc_len] at h
      obtain ⟨i, x, r, hr, hx, hu⟩ := ih _ _ h
      exact ⟨i + 1, x, r, by omega, by simpa using hx, hu⟩

theorem byte_wf {x : Int} (h : (Lit.int .u8 x).wf = true) : 0 ≤ x ∧ x < 256 := by
  have := bounds_u8 h
  omega

/-- A slice of bytes that came in. -/
theorem open_bytes {fuel : Nat} {v : Value} {x : DataW H × List MemPlace} (h : DataW.trod enc Try.prog w base (fun _ => true) held fuel 30 [v] = some x) :
    ∃ (A : Option Addr) (l c : Nat) (body : List Int), v = .slice A l c ∧ Rd w w.heap.size 1 A l (byt body) ∧ (A = none → l = 0 ∧ c = 0) ∧ ∀ y ∈ body, 0 ≤ y ∧ y < 256 := by
  rcases open_ints Try.underlying30 u8_under (by kernel_rfl) h with ⟨hcs, _⟩ | ⟨a, l, c, zs, hcs, _, hl, hm, hz, _, hcell, hwz⟩
  · simp at hcs
    subst hcs
    exact ⟨none, 0, 0, [], rfl, Rd.nil_ _ _ _ _, fun _ => ⟨rfl, rfl⟩, by simp⟩
  · simp at hcs
    subst hcs
    simp at hz
    refine ⟨some a, l, c, zs.take l, rfl, ⟨by simp; omega, fun hl0 => ?_⟩, (fun h => by cases h), fun y hy => byte_wf (hwz y (List.mem_of_mem_take hy))⟩
    obtain ⟨b, off, spot⟩ := a
    have hc0 := hcell 0 (by omega)
    have hspot : spot = none := by simpa [Addr.add] using World.cell?_spot hc0
    subst hspot
    refine ⟨b, off, rfl, ?_, fun j u hu => ?_⟩
    · have := World.block_lt_of_cell? w _ hc0
      rw [Addr.add_lit] at this
      exact this
    · have hj : j < (zs.take l).length := by have := (List.getElem?_eq_some_iff.1 hu).1; simpa using this
      have hj' : j < l ∧ j < zs.length := by simp at hj; omega
      have hc := hcell j hj'.2
      rw [Addr.add_lit] at hc
      rw [hc]
      have e : (byt (zs.take l))[j]? = some (.int .u8 (zs.getD j 0)) := by
        unfold byt
        rw [List.getElem?_map, List.getElem?_take_of_lt hj'.1, List.getD_eq_getElem?_getD, List.getElem?_eq_getElem hj'.2]; rfl
      rw [e] at hu
      exact hu

/-- A slice of steps that came in. -/
theorem open_ops {fuel : Nat} {A : Option Addr} {n c : Nat} {x : DataW H × List MemPlace} (h : DataW.trod enc Try.prog w base (fun _ => true) held fuel 22 [.slice A n c] = some x) :
    ∃ os : List OpRow, RdO w w.heap.size A n os ∧ n ≤ c ∧ c ≤ maxLen := by
  rcases open_slice Try.underlying22 h with ⟨h0, _⟩ | ⟨a, len, cap, m, k, D, Pl, hcs, hb, hl, hm, hmm, hx, hi⟩
  · simp at h0
    obtain ⟨rfl, rfl, rfl⟩ := h0
    exact ⟨[], ⟨rfl, Rd.nil_ _ _ _ _, fun o ho => by simp at ho⟩, by omega, by simp [maxLen]⟩
  · simp at hcs
    obtain ⟨rfl, rfl, rfl⟩ := hcs
    simp only [if_true] at hmm
    subst hmm
    have hC : Try.prog.cellsOf 32 = 4 := by kernel_rfl
    have each : ∀ i, i < n → ∃ e : OpRow, e.Ok w w.heap.size ∧ ∀ r u, e.enc[r]? = some u → w.cell? (a.add (i * 4 + r)) = some u := by
      intro i hin
      obtain ⟨cs', hc, ht'⟩ := hi i (by omega)
      rw [hC] at hc
      obtain ⟨ys, n', hn', hy, hlen, hyl, hf⟩ := DataW.trod_struct Try.underlying32 ht'
      obtain ⟨_, hcl, hat⟩ := World.cells?_some hc
      have at_ : ∀ j, (hj : j < 4) → ∃ v, cs'[j]? = some v ∧ w.cell? (a.add (i * 4 + j)) = some v ∧ (cs'.drop j).take 1 = [v] := fun j hj => by
        refine ⟨cs'[j]'(by omega), List.getElem?_eq_getElem (by omega), ?_, ?_⟩
        · have := hat j hj
          rw [← Go.Deep.add_add, this]
          exact List.getElem?_eq_getElem (by omega)
        · rw [List.drop_eq_getElem_cons (by omega)]
          rfl
      have hone : oneCellFields Try.prog #[{ name := "Kind", type := 3, offset := 0, embedded := false, tag := "", pkgPath := "", byteOffset := 0 },
        { name := "To", type := 3, offset := 1, embedded := false, tag := "", pkgPath := "", byteOffset := 8 },
        { name := "N", type := 3, offset := 2, embedded := false, tag := "", pkgPath := "", byteOffset := 16 },
        { name := "Data", type := 30, offset := 3, embedded := false, tag := "", pkgPath := "", byteOffset := 24 }] = true := by kernel_rfl
      have fld : ∀ (j : Nat) (f : Field) (hj : j < 4), (#[{ name := "Kind", type := 3, offset := 0, embedded := false, tag := "", pkgPath := "", byteOffset := 0 },
        { name := "To", type := 3, offset := 1, embedded := false, tag := "", pkgPath := "", byteOffset := 8 },
        { name := "N", type := 3, offset := 2, embedded := false, tag := "", pkgPath := "", byteOffset := 16 },
        { name := "Data", type := 30, offset := 3, embedded := false, tag := "", pkgPath := "", byteOffset := 24 }] : Array Field)[j]? = some f → ∃ v y, w.cell? (a.add (i * 4 + j)) = some v ∧ DataW.trod enc Try.prog w base (fun _ => true) held n' f.type [v] = some y := by
        intro j f hj hf0
        obtain ⟨ho, hk⟩ := hone_of hone j f hf0
        have h1 := hf j f hf0
        rw [ho, hk] at h1
        obtain ⟨v, _, hcv, htk⟩ := at_ j hj
        rw [htk] at h1
        have hys : ys[j]? = some (ys[j]'(by rw [hyl]; exact hj)) := List.getElem?_eq_getElem _
        exact ⟨v, _, hcv, h1.trans hys⟩
      obtain ⟨v0, y0, k0, t0⟩ := fld 0 _ (by omega) rfl
      obtain ⟨v1, y1, k1, t1⟩ := fld 1 _ (by omega) rfl
      obtain ⟨v2, y2, k2, t2⟩ := fld 2 _ (by omega) rfl
      obtain ⟨v3, y3, k3, t3⟩ := fld 3 _ (by omega) rfl
      obtain ⟨z0, e0, _, _⟩ := DataW.trod_int Try.underlying3 t0
      obtain ⟨z1, e1, _, _⟩ := DataW.trod_int Try.underlying3 t1
      obtain ⟨z2, e2, _, _⟩ := DataW.trod_int Try.underlying3 t2
      obtain ⟨Ab, lb, cb, body, rfl, b1, b2, b3⟩ := open_bytes t3
      simp at e0 e1 e2
      subst e0 e1 e2
      refine ⟨⟨z0, z1, z2, Ab, lb, cb, body⟩, ⟨b1, b2, b3⟩, fun r u hu => ?_⟩
      match r, hu with
      | 0, hu => simp [OpRow.enc] at hu; subst hu; exact k0
      | 1, hu => simp [OpRow.enc] at hu; subst hu; exact k1
      | 2, hu => simp [OpRow.enc] at hu; subst hu; exact k2
      | 3, hu => simp [OpRow.enc] at hu; subst hu; exact k3
      | r + 4, hu => simp [OpRow.enc] at hu
    obtain ⟨os, hel, heq⟩ := list_of _ n each
    refine ⟨os, ⟨hel, ⟨by rw [flat_len OpRow.enc 4 OpRow.enc_len, hel], fun hn => ?_⟩, fun o ho => ?_⟩, hl, hm⟩
    · obtain ⟨b, off, spot⟩ := a
      have hx0 : os[0]? = some (os[0]'(by omega)) := List.getElem?_eq_getElem (by omega)
      have hc0 := (heq 0 _ hx0).2 0 _ rfl
      have hspot : spot = none := by simpa [Addr.add] using World.cell?_spot hc0
      subst hspot
      refine ⟨b, off, rfl, ?_, fun j u hu => ?_⟩
      · have := World.block_lt_of_cell? w _ hc0
        rw [Addr.add_lit] at this
        exact this
      · obtain ⟨i, y, r, rfl, hy, hr⟩ := flat_inv os j u hu
        have := (heq i y hy).2 r u hr
        rwa [Addr.add_lit] at this
    · obtain ⟨i, hi', rfl⟩ := List.getElem_of_mem ho
      exact (heq i _ (List.getElem?_eq_getElem hi')).1
end

set_option maxRecDepth 100000 in
theorem lifted (os : Os) (started : os.Started) (H : Type) (enc : TypeId × Value → H) :
    ReturnsInHanded {} Try.checked os 3 .any (Rows.airPlaysSpec.pre6 enc Try.prog Try.f3 Rows.airPlaysRow.domain false) (Rows.airPlaysSpec.post enc Try.prog Try.f3 false true false false) := by
  refine returnsInHanded_of_change (C := Try.checked) own started (by kernel_rfl) Try.func3
    (ChangeSpec.witness6 (enc := enc) (C := Try.checked) false ⟨#[], #[.slice none 0 0], []⟩ 8 (by kernel_rfl) (by kernel_rfl) (by kernel_rfl) (by kernel_rfl)) ?_
  intro W base args ds gs before hval0 hW hcnd _
  have hval : ∀ (j : Nat) t v, Try.f3.params[j]? = some t → args[j]? = some v → Value.okWide Try.prog W .any base t v := hval0
  have hW' := hW
  obtain ⟨p, q, hA0, hV, rfl, hfz, hnd⟩ := hW
  have hA : DataW.TrodAll enc Try.prog W 0 (fun _ => true) true Try.f3.params.toList args.toList ds p := hA0
  rw [Try.params3] at hA hval
  obtain ⟨v0, vs0, d0, ds0, p0, q0, hargs, rfl, rfl, h0, r0⟩ := trodAll_cons hA
  obtain ⟨rfl, rfl, rfl⟩ := trodAll_nil r0
  obtain rfl : args = #[v0] := by cases args; simp_all
  obtain ⟨rfl, rfl⟩ := trodVars_none hV
  obtain ⟨a0, len0, cap0, rfl⟩ := okWide_slice Try.underlying22 (hval 0 22 v0 rfl rfl)
  have k0 := h0
  have lt0 : ∀ x ∈ p0, x.block < W.heap.size := by obtain ⟨m, hm⟩ := k0; exact DataW.trod_lt m _ _ _ hm
  obtain ⟨fuel0, hf0⟩ := h0
  obtain ⟨xs, w0, n0, m0⟩ := open_ops (by simpa [Value.cells] using hf0)
  clear hA0 hval0
  refine (plays_row a0 len0 cap0 xs W w0 n0 m0).mono fun e W' ⟨he, bel⟩ => ?_
  subst he
  exact ⟨_, rfl, _, _, _, [], _, [], hW', trodAll_mk1 (shut_bool Try.underlying4 _), (trodAll_cons_mk (Below.trod laidOut (by kernel_rfl) (of_decide_eq_true (by kernel_rfl)) k0 bel lt0) trodAll_mk0), rfl, bel.frame _, fun h => by cases h⟩

theorem over : Rows.airPlaysRow.holds Try.pinned (OpenSpec.ofChange Rows.airPlaysSpec) :=
  OpenClaim.holds_of_wide 3 Try.f3 rfl rfl rfl rfl rfl rfl rfl ⟨rfl, rfl, rfl, rfl, rfl⟩ rfl rfl rfl rfl rfl (by kernel_rfl) Try.func3 (by kernel_rfl)
    (of_decide_eq_true (by kernel_rfl)) (by unfold Func.isWrapper; rw [if_neg (of_decide_eq_false (by kernel_rfl))]; exact ⟨rfl, rfl⟩)
    (fun os started H enc _ => lifted os started H enc)

theorem proved : Rows.AirPlaysSaid := over
#print axioms proved
end Go.Proofs.Ytgegjoeggbhaeaa.airPlays
