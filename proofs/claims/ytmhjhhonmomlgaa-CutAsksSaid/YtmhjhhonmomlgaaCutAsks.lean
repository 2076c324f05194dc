/-
  CutAsks: for any two lists of entries and any int, where both lists have at most 60 entries of texts of at most 400 bytes, Keep, Rest and Clash return what the reference specifies; longer lists are passed over by the law itself; no condition.
  The frame of the row: two slices of structs are opened cell by cell; the walk is cutAsks_any (T6).
-/
import Derived.Test.YtmhjhhonmomlgaaT6
import Derived.WalkKit
import Derived.ProofKit
import Derived.OpenShut
import Derived.ShutString
import Derived.ChangeOld
import Derived.Below
import Derived.SizedLaws
import Derived.Deep.Slices
import Derived.Deep.Fields
import Derived.ChangeSame
namespace Go.Proofs.Ytmhjhhonmomlgaa.cutAsks
open Go.ChangeShapes Go.WideShapes Go.ChangeAt Go.RowKit Go.Deep
open Go.ChangeMaps (open_string shut_string)
set_option linter.unusedVariables false

theorem own : ownKnob Try.prog.godebug = none := by kernel_rfl
theorem laidOut : laidOutB Try.prog = true := by kernel_rfl

section
variable {H : Type} {enc : TypeId × Value → H} {w : World} {base : Nat} {spare : Nat → Bool} {held : Bool}

/-- Of a list of numbers below n, each with something: the list of these. -/
theorem list_of {α : Type} (Q : Nat → α → Prop) : ∀ n, (∀ i, i < n → ∃ e, Q i e) → ∃ es : List α, es.length = n ∧ ∀ i e, es[i]? = some e → Q i e
  | 0, _ => ⟨[], rfl, fun i e h => by simp at h⟩
  | n + 1, h => by
    obtain ⟨es, hl, hq⟩ := list_of Q n fun i hi => h i (by omega)
    obtain ⟨e, he⟩ := h n (by omega)
    refine ⟨es ++ [e], by simp [hl], fun i x hx => ?_⟩
    rcases Nat.lt_or_ge i n with hi | hi
    · rw [List.getElem?_append_left (by omega)] at hx
      exact hq i x hx
    · rw [List.getElem?_append_right (by omega)] at hx
      have h0 : i - es.length = 0 := by
        rcases Nat.eq_zero_or_pos (i - es.length) with h0 | h0
        · exact h0
        · rw [List.getElem?_eq_none (by simp; omega)] at hx; cases hx
      rw [h0] at hx
      simp at hx
      subst hx
      obtain rfl : i = n := by omega
      exact he

theorem flat_inv (es : List Ent) : ∀ (j : Nat) (u : Value), (es.flatMap Ent.enc)[j]? = some u → ∃ i x r, j = i * 8 + r ∧ es[i]? = some x ∧ x.enc[r]? = some u := by
  induction es with
  | nil => intro j u h; simp at h
  | cons a l ih =>
    intro j u h
    rw [List.flatMap_cons] at h
    rcases Nat.lt_or_ge j 8 with hj | hj
    · rw [List.getElem?_append_left (by rw [Ent.enc_len]; exact hj)] at h
      exact ⟨0, a, j, by omega, by simp, h⟩
    · rw [List.getElem?_append_right (by rw [Ent.enc_len]; exact hj), Ent.enc_len] at h
      obtain ⟨i, x, r, hr, hx, hu⟩ := ih _ _ h
      exact ⟨i + 1, x, r, by omega, by simpa using hx, hu⟩

/-- A slice of entries that came in. -/
theorem open_ents {fuel : Nat} {A : Option Addr} {n c : Nat} {x : DataW H × List MemPlace} (h : DataW.trod enc Try.prog w base (fun _ => true) held fuel 23 [.slice A n c] = some x) :
    ∃ es : List Ent, RdE w w.heap.size A n es ∧ n ≤ c ∧ c ≤ maxLen ∧ (A = none → n = 0 ∧ c = 0) := by
  rcases open_slice Try.underlying23 h with ⟨h0, _⟩ | ⟨a, len, cap, m, k, D, Pl, hcs, hb, hl, hm, hmm, hx, hi⟩
  · simp at h0
    obtain ⟨rfl, rfl, rfl⟩ := h0
    exact ⟨[], RdE.empty _ _ _, by omega, by simp [maxLen], fun _ => ⟨rfl, rfl⟩⟩
  · simp at hcs
    obtain ⟨rfl, rfl, rfl⟩ := hcs
    simp only [if_true] at hmm
    subst hmm
    have hC : Try.prog.cellsOf 29 = 8 := by kernel_rfl
    have each : ∀ i, i < n → ∃ e : Ent, ∀ r u, e.enc[r]? = some u → w.cell? (a.add (i * 8 + r)) = some u := by
      intro i hin
      obtain ⟨cs', hc, ht'⟩ := hi i (by omega)
      rw [hC] at hc
      obtain ⟨ys, n', hn', hy, hlen, hyl, hf⟩ := DataW.trod_struct Try.underlying29 ht'
      obtain ⟨_, hcl, hat⟩ := World.cells?_some hc
      have at_ : ∀ j, (hj : j < 8) → ∃ v, cs'[j]? = some v ∧ w.cell? (a.add (i * 8 + j)) = some v ∧ (cs'.drop j).take 1 = [v] := fun j hj => by
        refine ⟨cs'[j]'(by omega), List.getElem?_eq_getElem (by omega), ?_, ?_⟩
        · have := hat j hj
          rw [← Go.Deep.add_add, this]
          exact List.getElem?_eq_getElem (by omega)
        · rw [List.drop_eq_getElem_cons (by omega)]
          rfl
      have hone : oneCellFields Try.prog #[{ name := "Kind", type := 3, offset := 0, embedded := false, tag := "", pkgPath := "", byteOffset := 0 },
        { name := "View", type := 3, offset := 1, embedded := false, tag := "", pkgPath := "", byteOffset := 8 },
        { name := "Id", type := 3, offset := 2, embedded := false, tag := "", pkgPath := "", byteOffset := 16 },
        { name := "Tier", type := 3, offset := 3, embedded := false, tag := "", pkgPath := "", byteOffset := 24 },
        { name := "From", type := 2, offset := 4, embedded := false, tag := "", pkgPath := "", byteOffset := 32 },
        { name := "To", type := 2, offset := 5, embedded := false, tag := "", pkgPath := "", byteOffset := 40 },
        { name := "Sum", type := 27, offset := 6, embedded := false, tag := "", pkgPath := "", byteOffset := 48 },
        { name := "Text", type := 9, offset := 7, embedded := false, tag := "", pkgPath := "", byteOffset := 56 }] = true := by kernel_rfl
      have fld : ∀ (j : Nat) (f : Field) (hj : j < 8), (#[{ name := "Kind", type := 3, offset := 0, embedded := false, tag := "", pkgPath := "", byteOffset := 0 },
        { name := "View", type := 3, offset := 1, embedded := false, tag := "", pkgPath := "", byteOffset := 8 },
        { name := "Id", type := 3, offset := 2, embedded := false, tag := "", pkgPath := "", byteOffset := 16 },
        { name := "Tier", type := 3, offset := 3, embedded := false, tag := "", pkgPath := "", byteOffset := 24 },
        { name := "From", type := 2, offset := 4, embedded := false, tag := "", pkgPath := "", byteOffset := 32 },
        { name := "To", type := 2, offset := 5, embedded := false, tag := "", pkgPath := "", byteOffset := 40 },
        { name := "Sum", type := 27, offset := 6, embedded := false, tag := "", pkgPath := "", byteOffset := 48 },
        { name := "Text", type := 9, offset := 7, embedded := false, tag := "", pkgPath := "", byteOffset := 56 }] : Array Field)[j]? = some f → ∃ v y, w.cell? (a.add (i * 8 + j)) = some v ∧ DataW.trod enc Try.prog w base (fun _ => true) held n' f.type [v] = some y := by
        intro j f hj hf0
        obtain ⟨ho, hk⟩ := hone_of hone j f hf0
        have h1 := hf j f hf0
        rw [ho, hk] at h1
        obtain ⟨v, _, hcv, htk⟩ := at_ j hj
        rw [htk] at h1
        have hys : ys[j]? = some (ys[j]'(by rw [hyl]; exact hj)) := List.getElem?_eq_getElem _
        exact ⟨v, _, hcv, h1.trans hys⟩
      obtain ⟨v0, y0, k0, t0⟩ := fld 0 _ (by omega) rfl
      obtain ⟨v1, y1, k1, t1⟩ := fld 1 _ (by omega) rfl
      obtain ⟨v2, y2, k2, t2⟩ := fld 2 _ (by omega) rfl
      obtain ⟨v3, y3, k3, t3⟩ := fld 3 _ (by omega) rfl
      obtain ⟨v4, y4, k4, t4⟩ := fld 4 _ (by omega) rfl
      obtain ⟨v5, y5, k5, t5⟩ := fld 5 _ (by omega) rfl
      obtain ⟨v6, y6, k6, t6⟩ := fld 6 _ (by omega) rfl
      obtain ⟨v7, y7, k7, t7⟩ := fld 7 _ (by omega) rfl
      obtain ⟨z0, e0, _, _⟩ := DataW.trod_int Try.underlying3 t0
      obtain ⟨z1, e1, _, _⟩ := DataW.trod_int Try.underlying3 t1
      obtain ⟨z2, e2, _, _⟩ := DataW.trod_int Try.underlying3 t2
      obtain ⟨z3, e3, _, _⟩ := DataW.trod_int Try.underlying3 t3
      obtain ⟨z4, e4, _, _⟩ := DataW.trod_int Try.underlying2 t4
      obtain ⟨z5, e5, _, _⟩ := DataW.trod_int Try.underlying2 t5
      obtain ⟨z6, e6, _, _⟩ := DataW.trod_int Try.underlying27 t6
      obtain ⟨z7, e7, _, _⟩ := DataW.trod_string Try.underlying9 t7
      simp at e0 e1 e2 e3 e4 e5 e6 e7
      subst e0 e1 e2 e3 e4 e5 e6 e7
      refine ⟨⟨z0, z1, z2, z3, z4, z5, z6, z7⟩, fun r u hu => ?_⟩
      match r, hu with
      | 0, hu => simp [Ent.enc] at hu; subst hu; exact k0
      | 1, hu => simp [Ent.enc] at hu; subst hu; exact k1
      | 2, hu => simp [Ent.enc] at hu; subst hu; exact k2
      | 3, hu => simp [Ent.enc] at hu; subst hu; exact k3
      | 4, hu => simp [Ent.enc] at hu; subst hu; exact k4
      | 5, hu => simp [Ent.enc] at hu; subst hu; exact k5
      | 6, hu => simp [Ent.enc] at hu; subst hu; exact k6
      | 7, hu => simp [Ent.enc] at hu; subst hu; exact k7
      | r + 8, hu => simp [Ent.enc] at hu
    obtain ⟨es, hel, heq⟩ := list_of _ n each
    refine ⟨es, ⟨hel, by rw [flat_len Ent.enc 8 Ent.enc_len, hel], fun hn => ?_⟩, hl, hm, fun h => by cases h⟩
    obtain ⟨b, off, spot⟩ := a
    have hx0 : es[0]? = some (es[0]'(by omega)) := List.getElem?_eq_getElem (by omega)
    have hc0 := heq 0 _ hx0 0 _ rfl
    have hspot : spot = none := by simpa [Addr.add] using World.cell?_spot hc0
    subst hspot
    refine ⟨b, off, rfl, ?_, fun j u hu => ?_⟩
    · have := World.block_lt_of_cell? w _ hc0
      rw [Addr.add_lit] at this
      exact this
    · obtain ⟨i, y, r, rfl, hy, hr⟩ := flat_inv es j u hu
      have := heq i y hy r u hr
      rwa [Addr.add_lit] at this
end

set_option maxRecDepth 100000 in
theorem lifted (os : Os) (started : os.Started) (H : Type) (enc : TypeId × Value → H) :
    ReturnsInHanded {} Try.checked os 4 .any (Rows.cutAsksSpec.pre6 enc Try.prog Try.f4 Rows.cutAsksRow.domain false) (Rows.cutAsksSpec.post enc Try.prog Try.f4 false true false false) := by
  refine returnsInHanded_of_change (C := Try.checked) own started (by kernel_rfl) Try.func4
    (ChangeSpec.witness6 (enc := enc) (C := Try.checked) false ⟨#[], #[.slice none 0 0, .slice none 0 0, .int .i64 0], []⟩ 8 (by kernel_rfl) (by kernel_rfl) (by kernel_rfl) (by kernel_rfl)) ?_
  intro W base args ds gs before hval0 hW hcnd _
  have hval : ∀ (j : Nat) t v, Try.f4.params[j]? = some t → args[j]? = some v → Value.okWide Try.prog W .any base t v := hval0
  have hW' := hW
  obtain ⟨p, q, hA0, hV, rfl, hfz, hnd⟩ := hW
  have hA : DataW.TrodAll enc Try.prog W 0 (fun _ => true) true Try.f4.params.toList args.toList ds p := hA0
  rw [Try.params4] at hA hval
  obtain ⟨v0, vs0, d0, ds0, p0, q0, hargs, rfl, rfl, h0, r0⟩ := trodAll_cons hA
  obtain ⟨v1, vs1, d1, ds1, p1, q1, rfl, rfl, rfl, h1, r1⟩ := trodAll_cons r0
  obtain ⟨v2, vs2, d2, ds2, p2, q2, rfl, rfl, rfl, h2, r2⟩ := trodAll_cons r1
  obtain ⟨rfl, rfl, rfl⟩ := trodAll_nil r2
  obtain rfl : args = #[v0, v1, v2] := by cases args; simp_all
  obtain ⟨rfl, rfl⟩ := trodVars_none hV
  obtain ⟨a0, len0, cap0, rfl⟩ := okWide_slice Try.underlying23 (hval 0 23 v0 rfl rfl)
  obtain ⟨a1, len1, cap1, rfl⟩ := okWide_slice Try.underlying23 (hval 1 23 v1 rfl rfl)
  have k0 := h0
  have k1 := h1
  have lt0 : ∀ x ∈ p0, x.block < W.heap.size := by obtain ⟨m, hm⟩ := k0; exact DataW.trod_lt m _ _ _ hm
  have lt1 : ∀ x ∈ p1, x.block < W.heap.size := by obtain ⟨m, hm⟩ := k1; exact DataW.trod_lt m _ _ _ hm
  obtain ⟨fuel0, hf0⟩ := h0
  obtain ⟨fuel1, hf1⟩ := h1
  obtain ⟨xs, w0, n0, m0, o0⟩ := open_ents (by simpa [Value.cells] using hf0)
  obtain ⟨ys, w1, n1, m1, o1⟩ := open_ents (by simpa [Value.cells] using hf1)
  obtain ⟨a2, rfl, rfl, rfl, w2⟩ := open_int Try.underlying3 (hval 2 3 v2 rfl rfl) h2
  clear hA0 hval0
  refine (cutAsks_any a0 a1 len0 len1 cap0 cap1 xs ys a2 W w0 w1 n0 n1 m0 m1 o0 o1).mono fun e W' ⟨he, bel⟩ => ?_
  subst he
  exact ⟨_, rfl, _, _, _, [], _, [], hW', trodAll_mk1 (shut_bool Try.underlying4 _), (trodAll_cons_mk (Below.trod laidOut (by kernel_rfl) (of_decide_eq_true (by kernel_rfl)) k0 bel lt0) (trodAll_cons_mk (Below.trod laidOut (by kernel_rfl) (of_decide_eq_true (by kernel_rfl)) k1 bel lt1) (trodAll_cons_mk (shut_int Try.underlying3 w2) trodAll_mk0))), rfl, bel.frame _, fun h => by cases h⟩

theorem over : Rows.cutAsksRow.holds Try.pinned (OpenSpec.ofChange Rows.cutAsksSpec) :=
  OpenClaim.holds_of_wide 4 Try.f4 rfl rfl rfl rfl rfl rfl rfl ⟨rfl, rfl, rfl, rfl, rfl⟩ rfl rfl rfl rfl rfl (by kernel_rfl) Try.func4 (by kernel_rfl)
    (of_decide_eq_true (by kernel_rfl)) (by unfold Func.isWrapper; rw [if_neg (of_decide_eq_false (by kernel_rfl))]; exact ⟨rfl, rfl⟩)
    (fun os started H enc _ => lifted os started H enc)

theorem proved : Rows.CutAsksSaid := over
#print axioms proved
end Go.Proofs.Ytmhjhhonmomlgaa.cutAsks
