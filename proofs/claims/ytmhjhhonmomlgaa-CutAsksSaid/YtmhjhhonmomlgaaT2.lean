import Derived.Test.YtmhjhhonmomlgaaT1
namespace Go.Proofs.Ytmhjhhonmomlgaa
open Go.RowKit

set_option maxHeartbeats 1000000 in
theorem meet_any (A1 A2 : Option Addr) (n1 n2 c1 c2 : Nat) (xs ys : List Ent) (w : World) (h1 : RdE w w.heap.size A1 n1 xs) (h2 : RdE w w.heap.size A2 n2 ys) (m1 : n1 ≤ 9223372036854775807) (m2 : n2 ≤ 9223372036854775807) :
    Calls Try.prog 17 #[.slice A1 n1 c1, .slice A2 n2 c2] w fun e w' => e = .returned (.int .i64 (meet xs ys)) ∧ Below w.heap.size w w' := by
  have l1 : xs.length = n1 := h1.1
  have l2 : ys.length = n2 := h2.1
  have H1 := Lib.hid h1
  have H2 := Lib.hid h2
  have L1 := Lib.hid l1
  have L2 := Lib.hid l2
  clear h1 h2 l1 l2
  go_enter Try.func17, Try.ntmps17
  go_wp2
  go_loopg [5] n1 (fun g v wr => ∃ k : Nat, k ≤ n1 ∧ k ≤ n2 ∧ n1 - k ≤ g ∧ v = .int .i64 k ∧ Below w.heap.size w wr ∧ Hid (∀ j x y, j < k → xs[j]? = some x → ys[j]? = some y → sameE x y = true))
  case atStart => exact ⟨0, by omega, by omega, by omega, rfl, Below.refl _ _, fun j x y hj => absurd hj (Nat.not_lt_zero _)⟩
  case round =>
    obtain ⟨k, hk1, hk2, hg, rfl, HB, HA⟩ := hrel
    have hmin : (min (n1 : Int) (n2 : Int)) = ((min n1 n2 : Nat) : Int) := by omega
    by_cases hl : k < n1 ∧ k < n2
    · obtain ⟨hl1, hl2⟩ := hl
      obtain ⟨b1, o1, x, rfl, hb1, hx, r1⟩ := H1.out.at_ k hl1
      obtain ⟨b2, o2, y, rfl, hb2, hy, r2⟩ := H2.out.at_ k hl2
      obtain ⟨p0, p1, p2, p3, p4, p5, p6, p7⟩ := r1.keep (w' := wr) fun p hp => HB.cell (by omega)
      obtain ⟨q0, q1, q2, q3, q4, q5, q6, q7⟩ := r2.keep (w' := wr) fun p hp => HB.cell (by omega)
      have HX := Lib.hid hx
      have HY := Lib.hid hy
      clear r1 r2 hx hy
      have hlt1 : (k : Int) < (n1 : Int) := by omega
      have hlt2 : (k : Int) < (n2 : Int) := by omega
      have hmn : ((n2 < n1) = True ∨ (n2 < n1) = False) := by by_cases h : n2 < n1 <;> simp [h]
      rcases hmn with hmn | hmn
      all_goals
        cases he : sameE x y with
        | true =>
          go_wp2_with fail
          go_still_tail 16, (by kernel_rfl)
          change wpList _ _ _ _ _ wr.drew
          go_wp2_with (go_at_call 18; refine (same_any x y _).mono ?_; rintro e w' ⟨rfl, hb⟩)
          go_roundg (n1 - (k + 1))
          case measure => omega
          case rel => exact ⟨k + 1, by omega, by omega, by omega, by go_num, HB.drew.trans (hb.mono (by have := HB.size; simpa using this)), pre_succ HA HX.out HY.out he⟩
        | false =>
          go_wp2_with fail
          go_still_tail 16, (by kernel_rfl)
          change wpList _ _ _ _ _ wr.drew
          go_wp2_with (go_at_call 18; refine (same_any x y _).mono ?_; rintro e w' ⟨rfl, hb⟩)
          go_ret
          exact ⟨congrArg (fun z => Ending.returned (.int .i64 z)) (meet_stop HA (by have := L1.out; omega) (by have := L2.out; omega) (fun x' y' hx' hy' => by rw [HX.out] at hx'; rw [HY.out] at hy'; cases hx'; cases hy'; exact he)), HB.drew.trans (hb.mono (by have := HB.size; simpa using this))⟩
    · have hmn : ((n2 < n1) = True ∨ (n2 < n1) = False) := by by_cases h : n2 < n1 <;> simp [h]
      have hge : n1 ≤ k ∨ n2 ≤ k := by omega
      have fin : ∀ W, Below w.heap.size w W → Ending.returned (.int .i64 (k : Int)) = Ending.returned (.int .i64 (meet xs ys : Int)) ∧ Below w.heap.size w W := fun W hW =>
        ⟨congrArg (fun z => Ending.returned (.int .i64 z)) (meet_stop HA (by have := L1.out; omega) (by have := L2.out; omega) (fun x' y' hx' hy' => by
          rcases hge with h | h
          · rw [List.getElem?_eq_none (by have := L1.out; omega)] at hx'; cases hx'
          · rw [List.getElem?_eq_none (by have := L2.out; omega)] at hy'; cases hy')), hW⟩
      have FIN := Lib.hid fin
      clear fin
      rcases hmn with hmn | hmn
      · have d1 : decide (k < n2) = false := by simp at hmn; simp; omega
        have d2 : n2 ≤ k := by simpa using d1
        go_wp2_with fail
        go_quiet (fail)
        go_wp2
        go_ret
        exact FIN.out _ (below_drewN HB _)
      · have d1 : decide (k < n1) = false := by simp at hmn; simp; omega
        have d2 : n1 ≤ k := by simpa using d1
        go_wp2_with fail
        go_quiet (fail)
        go_wp2
        go_ret
        exact FIN.out _ (below_drewN HB _)

/-- The first place at which both lists have an element and these part; -1 if there is none. -/
def clash (xs ys : List Ent) : Int := if meet xs ys < xs.length ∧ meet xs ys < ys.length then meet xs ys else -1

theorem clash_at {xs ys : List Ent} {k : Nat} {x y : Ent} (h : Hid (∀ j x y, j < k → xs[j]? = some x → ys[j]? = some y → sameE x y = true)) (hk : k ≤ xs.length) (hk' : k ≤ ys.length)
    (hx : xs[k]? = some x) (hy : ys[k]? = some y) (he : sameE x y = false) : (k : Int) = clash xs ys := by
  have e : meet xs ys = k := meet_at xs ys k h.out hk hk' (fun x' y' hx' hy' => by rw [hx] at hx'; rw [hy] at hy'; cases hx'; cases hy'; exact he)
  have a := (List.getElem?_eq_some_iff.1 hx).1
  have b := (List.getElem?_eq_some_iff.1 hy).1
  unfold clash
  rw [e, if_pos ⟨a, b⟩]
theorem clash_none {xs ys : List Ent} {k : Nat} (h : Hid (∀ j x y, j < k → xs[j]? = some x → ys[j]? = some y → sameE x y = true)) (hk : k ≤ xs.length) (hk' : k ≤ ys.length)
    (hd : xs.length ≤ k ∨ ys.length ≤ k) : (-1 : Int) = clash xs ys := by
  have e : meet xs ys = k := meet_at xs ys k h.out hk hk' (fun x' y' hx' hy' => by
    have a := (List.getElem?_eq_some_iff.1 hx').1
    have b := (List.getElem?_eq_some_iff.1 hy').1
    omega)
  unfold clash
  rw [e, if_neg (by omega)]

set_option maxHeartbeats 1000000 in
theorem clash_any (A1 A2 : Option Addr) (n1 n2 c1 c2 : Nat) (xs ys : List Ent) (w : World) (h1 : RdE w w.heap.size A1 n1 xs) (h2 : RdE w w.heap.size A2 n2 ys) (m1 : n1 ≤ 9223372036854775807) (m2 : n2 ≤ 9223372036854775807) :
    Calls Try.prog 10 #[.slice A1 n1 c1, .slice A2 n2 c2] w fun e w' => e = .returned (.int .i64 (clash xs ys)) ∧ Below w.heap.size w w' := by
  have l1 : xs.length = n1 := h1.1
  have l2 : ys.length = n2 := h2.1
  have H1 := Lib.hid h1
  have H2 := Lib.hid h2
  have L1 := Lib.hid l1
  have L2 := Lib.hid l2
  clear h1 h2 l1 l2
  have hmn : ((n2 < n1) = True ∨ (n2 < n1) = False) := by by_cases h : n2 < n1 <;> simp [h]
  rcases hmn with hmn | hmn
  all_goals
    go_enter Try.func10, Try.ntmps10
    go_wp2; go_step3; go_wp2; go_step3; go_wp2
    go_loopg [5, 12] n1 (fun g s5 v wr => ∃ k : Nat, k ≤ n1 ∧ k ≤ n2 ∧ n1 - k ≤ g ∧ s5 = .int .i64 (-1) ∧ v = .int .i64 k ∧ Below w.heap.size w wr ∧ Hid (∀ j x y, j < k → xs[j]? = some x → ys[j]? = some y → sameE x y = true))
    case atStart => exact ⟨0, by omega, by omega, by omega, rfl, rfl, Below.refl _ _, fun j x y hj => absurd hj (Nat.not_lt_zero _)⟩
    case round =>
      obtain ⟨k, hk1, hk2, hg, rfl, rfl, HB, HA⟩ := hrel
      by_cases hl : k < n1 ∧ k < n2
      · obtain ⟨hl1, hl2⟩ := hl
        obtain ⟨b1, o1, x, rfl, hb1, hx, r1⟩ := H1.out.at_ k hl1
        obtain ⟨b2, o2, y, rfl, hb2, hy, r2⟩ := H2.out.at_ k hl2
        obtain ⟨p0, p1, p2, p3, p4, p5, p6, p7⟩ := r1.keep (w' := wr) fun p hp => HB.cell (by omega)
        obtain ⟨q0, q1, q2, q3, q4, q5, q6, q7⟩ := r2.keep (w' := wr) fun p hp => HB.cell (by omega)
        have HX := Lib.hid hx
        have HY := Lib.hid hy
        clear r1 r2 hx hy
        have hlt1 : (k : Int) < (n1 : Int) := by omega
        have hlt2 : (k : Int) < (n2 : Int) := by omega
        cases he : sameE x y with
        | true =>
          go_wp2_with fail
          go_still_tail 8, (by kernel_rfl)
          change wpList _ _ _ _ _ wr.drew
          go_wp2_with (go_at_call 18; refine (same_any x y _).mono ?_; rintro e w' ⟨rfl, hb⟩)
          go_roundg (n1 - (k + 1))
          case measure => omega
          case rel => exact ⟨k + 1, by omega, by omega, by omega, by go_num, by go_num, HB.drew.trans (hb.mono (by have := HB.size; simpa using this)), pre_succ HA HX.out HY.out he⟩
        | false =>
          go_wp2_with fail
          go_still_tail 8, (by kernel_rfl)
          change wpList _ _ _ _ _ wr.drew
          go_wp2_with (go_at_call 18; refine (same_any x y _).mono ?_; rintro e w' ⟨rfl, hb⟩)
          try rw [Exit.noGoto_ret]
          go_ret
          exact ⟨congrArg (fun z => Ending.returned (.int .i64 z)) (clash_at HA (by have := L1.out; omega) (by have := L2.out; omega) HX.out HY.out he), HB.drew.trans (hb.mono (by have := HB.size; simpa using this))⟩
      · have hge : n1 ≤ k ∨ n2 ≤ k := by omega
        have fin : ∀ W, Below w.heap.size w W → Ending.returned (.int .i64 (-1)) = Ending.returned (.int .i64 (clash xs ys)) ∧ Below w.heap.size w W := fun W hW =>
          ⟨congrArg (fun z => Ending.returned (.int .i64 z)) (clash_none HA (by have := L1.out; omega) (by have := L2.out; omega) (by have := L1.out; have := L2.out; omega)), hW⟩
        have FIN := Lib.hid fin
        clear fin
        first
          | (have d1 : decide (k < n2) = false := by simp at hmn; simp; omega
             have d2 : n2 ≤ k := by simpa using d1
             go_wp2
             try rw [Exit.noGoto_ret]
             go_ret
             exact FIN.out _ HB)
          | (have d1 : decide (k < n1) = false := by simp at hmn; simp; omega
             have d2 : n1 ≤ k := by simpa using d1
             go_wp2
             try rw [Exit.noGoto_ret]
             go_ret
             exact FIN.out _ HB)
end Go.Proofs.Ytmhjhhonmomlgaa
