import Derived.Test.YtgegjoeggbhaeaaA11
namespace Go.Proofs.Ytgegjoeggbhaeaa
open Go.RowKit Go.Conc

theorem bod_one {w : World} {B e k n : Nat} {v : Value} {xs : List Value} (h : Own w B e k v n xs) : v.oneCell' = true := by
  obtain ⟨A, c, rfl, _⟩ := h.form
  rfl
theorem tab_one {w : World} {B : Nat} {v : Value} {ps : List (Row × Value)} (t : Tab w B v ps) : ∀ u ∈ ps.flatMap encP, u.oneCell' = true := by
  intro u hu
  obtain ⟨p, hp, hu⟩ := List.mem_flatMap.1 hu
  simp only [encP, List.mem_cons, List.not_mem_nil, or_false] at hu
  rcases hu with rfl | rfl | rfl
  · rfl
  · exact bod_one (t.bod p hp)
  · rfl

/-- slices.Clone of the datagrams: new memory, the same bodies. -/
theorem clonef_any (B : Nat) (A : Option Addr) (c : Nat) (ps : List (Row × Value)) (w : World) (t : Tab w B (.slice A ps.length c) ps) (hn : ps.length ≤ 1000) :
    Calls Try.prog 25 #[.slice A ps.length c] w fun e w' => ∃ v, e = .returned v ∧ Own w' w.heap.size 55 3 v ps.length (ps.flatMap encP) ∧ Below w.heap.size w w' := by
  have hA : A = none → ps.length = 0 ∧ c = 0 := by
    obtain ⟨A', c', e, _, _, h3⟩ := t.own.form
    injection e with e1 _ e2
    subst e1 e2
    exact h3
  cases A with
  | none =>
    obtain ⟨h0, rfl⟩ := hA rfl
    obtain rfl : ps = [] := List.eq_nil_of_length_eq_zero h0
    have e0 := fun w => Lib.run_eql_slice_nil (P := Try.prog) w 26 55 none 0 0 0 0 Try.underlying26
    go_enter Try.func25, Try.ntmps25
    go_wp2
    go_ret
    exact ⟨_, rfl, Own.nil_ _ _ _ _, Below.refl _ _⟩
  | some a =>
    obtain ⟨i0, hi, hz0, hz1, hz2⟩ := info_parts fly_info
    have e0 := fun w => Lib.run_eql_slice_nil (P := Try.prog) w 26 55 (some a) ps.length c 0 0 Try.underlying26
    go_enter Try.func25, Try.ntmps25
    go_wp2_with (at_builtin; refine wpList_append_rd _ rfl (.tmp 5) (.tmp 6) 26 rfl w.heap.size 55 i0 _ 3 40 Try.underlying26 hi hz0 hz1 hz2 rfl (by decide) (.slice (some ⟨w.heap.size, 0, none⟩) 0 0) 0 [] rfl (Own.built w 55 3) w.heap.size (some a) ps.length c (ps.flatMap encP) rfl (t.own.rd.below ((Below.refl _ _).alloc (Nat.le_refl _) _)) (fun h => by cases h) (tab_one t) (by simp only [maxLen]; omega) (by omega) (by simp) ?_; intro v1 w1 hown1 hg1 hat1)
    go_ret
    have hb : Below w.heap.size w w1 := ((Below.refl _ _).alloc (Nat.le_refl _) _).grown hg1 (by simp) (fun k hk => by simp [Value.ownBlock] at hk; omega)
    exact ⟨v1, rfl, by simpa using hown1, hb⟩

/-- The copy inside All's loop: the first i bodies are its own. -/
structure Cop (w w' : World) (lv : Value) (ps qs : List (Row × Value)) (i : Nat) : Prop where
  rows : qs.map (·.1) = ps.map (·.1)
  own : Own w' w.heap.size 55 3 lv ps.length (qs.flatMap encP)
  done : ∀ j q, j < i → qs[j]? = some q → Own w' w.heap.size 5 1 q.2 q.1.body.length (byt q.1.body)
  todo : ∀ j, i ≤ j → qs[j]? = ps[j]?
  below : Below w.heap.size w w'

section
variable {w w' w2 : World} {lv : Value} {ps qs : List (Row × Value)} {i : Nat}
theorem Cop.len (c : Cop w w' lv ps qs i) : qs.length = ps.length := by have := congrArg List.length c.rows; simpa using this
theorem Cop.step {b off cap : Nat} {bv : Value} {p : Row × Value} (c : Cop w w' (.slice (some ⟨b, off, none⟩) ps.length cap) ps qs i) (hp : ps[i]? = some p) (hb : Below w'.heap.size w' w2) (ob : Own w2 w'.heap.size 5 1 bv p.1.body.length (byt p.1.body)) :
    Cop w (w2.setCell ⟨b, off + i * 3 + 1, none⟩ bv) (.slice (some ⟨b, off, none⟩) ps.length cap) ps (qs.set i (p.1, bv)) (i + 1) := by
  have hi : i < ps.length := (List.getElem?_eq_some_iff.1 hp).1
  have hq : qs[i]? = some p := (c.todo i (Nat.le_refl _)).trans hp
  have hs := c.below.size
  have vb : (Value.slice (some ⟨b, off, none⟩) ps.length cap).ownBlock = some b := by simp [Value.ownBlock]
  have hbl := c.own.block b vb
  obtain ⟨cur, hc⟩ := (c.own.below hb).type vb
  have stay : ∀ {B n : Nat} {v : Value} {xs : List Value}, Own w2 B 5 1 v n xs → Own (w2.setCell ⟨b, off + i * 3 + 1, none⟩ bv) B 5 1 v n xs := fun ho => ho.keep fun j hj => heap_setCell_other _ _ _ _ (by
    intro e0
    obtain ⟨cur', hc'⟩ := ho.type hj
    rw [e0] at hc'
    rw [hc] at hc'; injection hc' with hc'; injection hc' with _ hc' _; cases hc')
  refine ⟨?_, ?_, fun j q hj hjq => ?_, fun j hj => ?_, ?_⟩
  · apply List.ext_getElem?
    intro j
    rw [← c.rows, List.getElem?_map, List.getElem?_map, List.getElem?_set]
    by_cases e : i = j
    · subst e
      have h5 : i < qs.length := by rw [c.len]; exact hi
      rw [List.getElem?_eq_getElem h5] at hq
      injection hq with hq
      simp [h5, hq]
    · simp [e]
  · have := (c.own.below hb).set (i * 3 + 1) (by omega) bv
    rw [flat_set encP 3 encP_len qs i 1 p (p.1, bv) bv hq (by omega) rfl] at this
    rw [Nat.add_assoc]
    exact this
  · rw [List.getElem?_set] at hjq
    by_cases e : i = j
    · subst e
      have : i < qs.length := by rw [c.len]; exact hi
      simp [this] at hjq
      subst hjq
      exact (stay ob).base_ fun j hj => by have := ((stay ob).block j hj).1; omega
    · simp [e] at hjq
      exact stay ((c.done j q (by omega) hjq).below hb)
  · rw [List.getElem?_set_ne (by omega)]
    exact c.todo j (by omega)
  · exact (c.below.trans (hb.mono hs)).setCell (by show _ ≤ b; omega) _
theorem Cop.row {B : Nat} {v : Value} {p : Row × Value} (c : Cop w w' lv ps qs i) (t : Tab w B v ps) (hp : ps[i]? = some p) :
    ∃ b off cap Ab cb, lv = .slice (some ⟨b, off, none⟩) ps.length cap ∧ w'.cell? ⟨b, off + i * 3 + 1, none⟩ = some (.slice Ab p.1.body.length cb) ∧ Rd w' w'.heap.size 1 Ab p.1.body.length (byt p.1.body) ∧ (Ab = none → p.1.body.length = 0 ∧ cb = 0) ∧ b < w'.heap.size ∧ i < ps.length ∧ ∃ cur, w'.heap[b]? = some (.cells cur 55 (0, 0)) := by
  have hi : i < ps.length := (List.getElem?_eq_some_iff.1 hp).1
  have hq : qs[i]? = some p := (c.todo i (Nat.le_refl _)).trans hp
  obtain ⟨A, cap, rfl, _, _, _⟩ := c.own.form
  obtain ⟨b, off, rfl, hb, hc⟩ := c.own.rd.2 (by omega)
  have ho := (t.bod p (List.mem_of_getElem? hp)).below c.below
  obtain ⟨Ab, cb, e, _, _, h3⟩ := ho.form
  have c1 := hc _ _ (flat_get encP 3 encP_len qs i p hq 1 _ rfl)
  rw [e] at ho c1
  exact ⟨b, off, cap, Ab, cb, rfl, by rw [Nat.add_assoc]; exact c1, ho.rd, h3, hb, hi, c.own.type (by simp [Value.ownBlock])⟩
theorem Cop.tab (c : Cop w w' lv ps qs ps.length) : Tab w' w.heap.size lv qs :=
  ⟨by rw [c.len]; exact c.own, fun q hq => by
    obtain ⟨j, hj, rfl⟩ := List.getElem_of_mem hq
    exact c.done j _ (by rw [← c.len]; exact hj) (by simp)⟩
end

theorem all_nil (w : World) : Calls Try.prog 17 #[.pointer none] w fun e w' => e = .returned (.slice none 0 0) ∧ w' = w := by
  go_enter Try.func17, Try.ntmps17
  go_wp2
  go_ret
  exact ⟨rfl, rfl⟩

set_option maxHeartbeats 2000000 in
theorem all_any (B g h : Nat) (v : Value) (s : List Row) (w : World) (a : Air w B g h v s) :
    Calls Try.prog 17 #[.pointer (some ⟨g, 0, none⟩)] w fun e w' => ∃ lv qs, e = .returned lv ∧ qs.map (·.1) = s ∧ Tab w' w.heap.size lv qs ∧ Below w.heap.size w w' := by
  have few := a.few
  have small := Lib.hid a.small
  obtain ⟨A, c, rfl, h1, h2, h3⟩ := a.form
  have c0 := a.c0
  obtain ⟨ps, rfl, tb⟩ := a.tab
  have hl : (ps.map (·.1)).length = ps.length := List.length_map ..
  rw [hl] at few c0 tb h1 h3 a
  have TB := Lib.hid tb
  clear tb a
  go_enter Try.func17, Try.ntmps17
  go_wp2_with fail
  refine (clonef_any B A c ps w TB.out few).mono ?_
  rintro e w1 ⟨lv, rfl, ho, hb⟩
  obtain ⟨Al, cl, rfl, r1, r2, r3⟩ := ho.form
  have C0 : Hid (Cop w w1 (.slice Al ps.length cl) ps ps 0) := Lib.hid ⟨rfl, ho, fun j q hj => absurd hj (by omega), fun _ _ => rfl, hb⟩
  clear ho hb
  go_wp2_with fail
  refine wp_loop_ghost (fun m a w' => ∃ (i : Nat) (qs : List (Row × Value)) (x4 x15 x16 x17 x18 x19 x20 x21 x22 x23 x24 x25 x26 x27 : Value), i ≤ ps.length ∧ m = ps.length - i ∧ Cop w w' (.slice Al ps.length cl) ps qs i ∧
    a = ⟨#[.pointer (some ⟨g, 0, none⟩), undef, .slice none 0 0, .slice Al ps.length cl, x4, .pointer (some ⟨g, 0, none⟩), .bool false, .pointer (some ⟨g, 0, none⟩), .pointer (some ⟨g, 0, none⟩), .pointer (some ⟨g, 0, none⟩), .slice A ps.length c, .slice Al ps.length cl, .slice Al ps.length cl, .int .i64 ps.length, .int .i64 i, x15, x16, x17, x18, x19, x20, x21, x22, x23, x24, x25, x26, x27, undef], []⟩) ps.length ?_ ?_
  · exact ⟨0, ps, _, _, _, _, _, _, _, _, _, _, _, _, _, _, Nat.zero_le _, rfl, C0.out, rfl⟩
  · rintro m a w2 ⟨i, qs, x4, x15, x16, x17, x18, x19, x20, x21, x22, x23, x24, x25, x26, x27, hi, rfl, ci, rfl⟩
    by_cases hil : i < ps.length
    · have hp : ps[i]? = some ps[i] := by simp [hil]
      obtain ⟨b, off, cap, Ab, cb, e, d1, hrd, hA, hbl, _, cur, hcur⟩ := ci.row TB.out hp
      injection e with e1 _ e2
      subst e1 e2
      have hsm : ps[i].1.body.length ≤ 5000 := small.out _ (List.mem_map.2 ⟨_, List.getElem_mem hil, rfl⟩)
      have CI := Lib.hid ci
      have RD := Lib.hid hrd
      have HC := Lib.hid hcur
      have HP := Lib.hid hp
      clear ci hrd hcur hp
      go_wp2_with fail
      refine (clone_any Ab ps[i].1.body.length cb (byt ps[i].1.body) w2 RD.out hA (byt_one _) (by omega)).mono ?_
      rintro e w3 ⟨bv, rfl, ho, hb⟩
      obtain ⟨A3, cc3, rfl, hq1, hq2, hq3⟩ := ho.form
      have d3 := (hb.cell hbl).trans d1
      have f3 : w3.frozen? ⟨b, off + i * 3 + 1, none⟩ = false := frozen_of_row w3 b _ _ 55 ((hb.block b hbl).trans HC.out)
      have C3 := Lib.hid (CI.out.step HP.out hb ho)
      clear ho hb
      go_wp2
      refine ⟨_, ?_, i + 1, _, _, _, _, _, _, _, _, _, _, _, _, _, _, _, hil, rfl, C3.out, rfl⟩
      omega
    · obtain rfl : i = ps.length := by omega
      have CI := Lib.hid ci
      clear ci
      go_wp2
      go_ret
      exact ⟨_, qs, rfl, CI.out.rows, CI.out.tab, CI.out.below⟩
end Go.Proofs.Ytgegjoeggbhaeaa
