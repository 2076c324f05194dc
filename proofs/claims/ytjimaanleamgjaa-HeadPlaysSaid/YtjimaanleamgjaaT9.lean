import Derived.Test.YtjimaanleamgjaaT8
namespace Go.Proofs.Ytjimaanleamgjaa
open Go.RowKit

/-- policy.Default. -/
theorem default_any (w : World) : Calls Try.prog 16 #[] w fun e w' => e = .returned (.agg #[.int .i64 60, .int .i64 600, .int .i64 6000, .int .i64 0, .int .i64 8, .int .i64 30]) ∧ Below w.heap.size w w' := by
  go_enter Try.func16, Try.ntmps16
  go_wp2
  refine bodyPost_ret (v := .agg #[.int .i64 60, .int .i64 600, .int .i64 6000, .int .i64 0, .int .i64 8, .int .i64 30]) (by simp [results, Try.results16, go_sem]) rfl ?_
  exact ⟨rfl, by go_grown⟩

theorem age_at (a b c d : Int) (w : World) :
    (Instr.index 38 (.agg #[.int .i64 a, .int .i64 b, .int .i64 c, .int .i64 d]) (.int .i64 0)).run Try.prog w = .ok (.int .i64 a) w ∧
    (Instr.index 38 (.agg #[.int .i64 a, .int .i64 b, .int .i64 c, .int .i64 d]) (.int .i64 1)).run Try.prog w = .ok (.int .i64 b) w ∧
    (Instr.index 38 (.agg #[.int .i64 a, .int .i64 b, .int .i64 c, .int .i64 d]) (.int .i64 2)).run Try.prog w = .ok (.int .i64 c) w ∧
    (Instr.index 38 (.agg #[.int .i64 a, .int .i64 b, .int .i64 c, .int .i64 d]) (.int .i64 3)).run Try.prog w = .ok (.int .i64 d) w := by
  have u := run_underlying (P := Try.prog) Try.underlying38
  refine ⟨?_, ?_, ?_, ?_⟩ <;> simp [Instr.index, asIntOf, u, part, go_sem]

set_option maxHeartbeats 1000000 in
/-- policy.May of the policies of these laws. -/
theorem polMay_any (cnt span : Int) (w : World) (c0 : 1 ≤ cnt) (c1 : cnt ≤ 64) (s0 : 1 ≤ span) (s1 : span ≤ 200) :
    Calls Try.prog 24 #[.agg #[.int .i64 60, .int .i64 600, .int .i64 6000, .int .i64 0, .int .i64 cnt, .int .i64 span]] w fun e w' => e = .returned (.bool true) ∧ Below w.heap.size w w' := by
  go_enter Try.func24, Try.ntmps24
  go_wp2; go_step3; go_wp2; go_step3; go_wp2
  go_loopg [8] 4 (fun g v wr => ∃ k : Nat, k ≤ 4 ∧ 4 - k ≤ g ∧ v = .int .i64 k ∧ wr = w.alloc (.cells #[.int .i64 60, .int .i64 600, .int .i64 6000, .int .i64 0, .int .i64 cnt, .int .i64 span] 40))
  case atStart => exact ⟨0, by omega, by omega, rfl, rfl⟩
  case round =>
    obtain ⟨k, hk1, hg, rfl, rfl⟩ := hrel
    by_cases e0 : k = 4
    · subst e0
      go_wp2
      try rw [Exit.noGoto_ret]
      go_ret
      exact ⟨rfl, by go_grown⟩
    · have hk : k = 0 ∨ k = 1 ∨ k = 2 ∨ k = 3 := by omega
      rcases hk with rfl | rfl | rfl | rfl
      · obtain ⟨i0, i1, i2, i3⟩ := age_at 60 600 6000 0 (w.alloc (.cells #[.int .i64 60, .int .i64 600, .int .i64 6000, .int .i64 0, .int .i64 cnt, .int .i64 span] 40))
        go_wp2
        go_roundg 3
        case measure => omega
        case rel => exact ⟨1, by omega, by omega, rfl, rfl⟩
      · obtain ⟨i0, i1, i2, i3⟩ := age_at 60 600 6000 0 (w.alloc (.cells #[.int .i64 60, .int .i64 600, .int .i64 6000, .int .i64 0, .int .i64 cnt, .int .i64 span] 40))
        go_wp2
        go_roundg 2
        case measure => omega
        case rel => exact ⟨2, by omega, by omega, rfl, rfl⟩
      · obtain ⟨i0, i1, i2, i3⟩ := age_at 60 600 6000 0 (w.alloc (.cells #[.int .i64 60, .int .i64 600, .int .i64 6000, .int .i64 0, .int .i64 cnt, .int .i64 span] 40))
        go_wp2
        go_roundg 1
        case measure => omega
        case rel => exact ⟨3, by omega, by omega, rfl, rfl⟩
      · obtain ⟨i0, i1, i2, i3⟩ := age_at 60 600 6000 0 (w.alloc (.cells #[.int .i64 60, .int .i64 600, .int .i64 6000, .int .i64 0, .int .i64 cnt, .int .i64 span] 40))
        go_wp2
        go_roundg 0
        case measure => omega
        case rel => exact ⟨4, by omega, by omega, rfl, rfl⟩

/-- head.Due of an empty head. -/
theorem due_none (z : Int) (A : Option Addr) (c : Nat) (cnt span now : Int) (w : World) (z0 : 0 ≤ z) (z1 : z ≤ 1099511627776) (c0 : 1 ≤ cnt) (c1 : cnt ≤ 64) (s0 : 1 ≤ span) (s1 : span ≤ 200) :
    Calls Try.prog 17 #[.agg #[.int .i64 z, .slice A 0 c], .agg #[.int .i64 60, .int .i64 600, .int .i64 6000, .int .i64 0, .int .i64 cnt, .int .i64 span], .int .i64 now] w fun e w' => e = .returned (.bool false) ∧ Below w.heap.size w w' := by
  go_enter Try.func17, Try.ntmps17
  go_wp2_with fail
  refine (may_any _ _ _ _ [] _ (RdS.empty _ _ _) (Ok.nil z0 z1)).mono ?_
  rintro e w5 ⟨rfl, hb⟩
  have b5 : Below w.heap.size w w5 := below_after (((Below.refl _ _).alloc (Nat.le_refl _) _).alloc (by simp) _) hb (by simp; omega)
  have hz : w.heap.size + 2 ≤ w5.heap.size := (by have := hb.size; simp at this; omega)
  have hc0 : w5.cell? ⟨w.heap.size, 0, none⟩ = some (.int .i64 z) := cell_after hb (by simp [go_sem])
  have hc1 : w5.cell? ⟨w.heap.size, 1, none⟩ = some (.slice A 0 c) := cell_after hb (by simp [go_sem])
  have hd0 : w5.cell? ⟨w.heap.size + 1, 0, none⟩ = some (.int .i64 60) := cell_after hb (by simp [go_sem])
  have hd1 : w5.cell? ⟨w.heap.size + 1, 1, none⟩ = some (.int .i64 600) := cell_after hb (by simp [go_sem])
  have hd2 : w5.cell? ⟨w.heap.size + 1, 2, none⟩ = some (.int .i64 6000) := cell_after hb (by simp [go_sem])
  have hd3 : w5.cell? ⟨w.heap.size + 1, 3, none⟩ = some (.int .i64 0) := cell_after hb (by simp [go_sem])
  have hd4 : w5.cell? ⟨w.heap.size + 1, 4, none⟩ = some (.int .i64 cnt) := cell_after hb (by simp [go_sem])
  have hd5 : w5.cell? ⟨w.heap.size + 1, 5, none⟩ = some (.int .i64 span) := cell_after hb (by simp [go_sem])
  clear hb
  go_wp2_with fail
  refine (polMay_any cnt span _ c0 c1 s0 s1).mono ?_
  rintro e w6 ⟨rfl, hb⟩
  have hc1 := cell_after hb hc1
  have b6 := below_after b5 hb b5.size
  clear hb
  go_wp2_with fail
  go_ret
  exact ⟨rfl, b6⟩

def dueB (cnt : Int) (n : Nat) (t span now : Int) : Bool := decide (cnt ≤ (n : Int)) || decide (t + span ≤ now)

set_option maxHeartbeats 1000000 in
/-- head.Due of a head with samples. -/
theorem due_some (z : Int) (A : Option Addr) (n c : Nat) (xs : List Smp) (x : Smp) (cnt span now : Int) (w : World) (h : RdS w w.heap.size A n xs) (ok : Ok z xs) (hx : xs[0]? = some x) (c0 : 1 ≤ cnt) (c1 : cnt ≤ 64) (s0 : 1 ≤ span) (s1 : span ≤ 200) :
    Calls Try.prog 17 #[.agg #[.int .i64 z, .slice A n c], .agg #[.int .i64 60, .int .i64 600, .int .i64 6000, .int .i64 0, .int .i64 cnt, .int .i64 span], .int .i64 now] w fun e w' => e = .returned (.bool (dueB cnt n x.t span now)) ∧ Below w.heap.size w w' := by
  have hn : 0 < n := by rw [← h.1]; exact (List.getElem?_eq_some_iff.1 hx).1
  have m1 : n ≤ 64 := by rw [← h.1]; exact ok.len
  obtain ⟨b2, o2, x', hA, hb2, hx', r2⟩ := h.at_ 0 hn
  obtain rfl : x = x' := by rw [hx] at hx'; exact Option.some.inj hx'
  subst hA
  have y0 : z ≤ x.t := ok.lo x (List.mem_of_getElem? hx)
  have y1 : x.t < 1099511627776 := ok.hi x (List.mem_of_getElem? hx)
  have z0 := ok.z0
  have z1 := ok.z1
  have e0 : ((n : Int) == 0) = false := by simp; omega
  have H := Lib.hid h
  have OK := Lib.hid ok
  have R2 := Lib.hid r2
  clear h ok hx hx' r2
  go_enter Try.func17, Try.ntmps17
  go_wp2_with fail
  refine (may_any _ _ _ _ xs _ (H.out.after (((Below.refl _ _).alloc (Nat.le_refl _) _).alloc (by simp) _)) OK.out).mono ?_
  rintro e w5 ⟨rfl, hb⟩
  have b5 : Below w.heap.size w w5 := below_after (((Below.refl _ _).alloc (Nat.le_refl _) _).alloc (by simp) _) hb (by simp; omega)
  have hz : w.heap.size + 2 ≤ w5.heap.size := (by have := hb.size; simp at this; omega)
  have hc0 : w5.cell? ⟨w.heap.size, 0, none⟩ = some (.int .i64 z) := cell_after hb (by simp [go_sem])
  have hc1 : w5.cell? ⟨w.heap.size, 1, none⟩ = some (.slice (some ⟨b2, o2, none⟩) n c) := cell_after hb (by simp [go_sem])
  have hd0 : w5.cell? ⟨w.heap.size + 1, 0, none⟩ = some (.int .i64 60) := cell_after hb (by simp [go_sem])
  have hd1 : w5.cell? ⟨w.heap.size + 1, 1, none⟩ = some (.int .i64 600) := cell_after hb (by simp [go_sem])
  have hd2 : w5.cell? ⟨w.heap.size + 1, 2, none⟩ = some (.int .i64 6000) := cell_after hb (by simp [go_sem])
  have hd3 : w5.cell? ⟨w.heap.size + 1, 3, none⟩ = some (.int .i64 0) := cell_after hb (by simp [go_sem])
  have hd4 : w5.cell? ⟨w.heap.size + 1, 4, none⟩ = some (.int .i64 cnt) := cell_after hb (by simp [go_sem])
  have hd5 : w5.cell? ⟨w.heap.size + 1, 5, none⟩ = some (.int .i64 span) := cell_after hb (by simp [go_sem])
  clear hb
  go_wp2_with fail
  refine (polMay_any cnt span _ c0 c1 s0 s1).mono ?_
  rintro e w6 ⟨rfl, hb⟩
  have hc0 := cell_after hb hc0
  have hc1 := cell_after hb hc1
  have hd4 := cell_after hb hd4
  have hd5 := cell_after hb hd5
  have b6 := below_after b5 hb b5.size
  have p0 : w6.cell? ⟨b2, o2, none⟩ = some (.int .i64 x.t) := (b6.cell hb2).trans (by have := R2.out.c0; simpa using this)
  have e10 : IntKind.i64.wrap (x.t + span) = x.t + span := IntWalk.i64_in _ (by omega)
  clear hb hd0 hd1 hd2 hd3
  by_cases hq : cnt ≤ (n : Int)
  · have d1 : decide (cnt ≤ (n : Int)) = true := by simpa using hq
    go_wp2_with fail
    go_quiet (fail)
    go_wp2
    go_ret
    exact ⟨ret_bool (by unfold dueB; simp [hq]), below_drewN b6 _⟩
  · have d1 : decide (cnt ≤ (n : Int)) = false := by simpa using hq
    have hq' : (n : Int) < cnt := by omega
    go_wp2_with fail
    go_quiet (fail)
    go_wp2
    go_ret
    exact ⟨ret_bool (by unfold dueB; simp [hq']; try omega), below_drewN b6 _⟩

/-- head.Same of one head. -/
theorem same_yes (z : Int) (A1 A2 : Option Addr) (n c1 c2 : Nat) (xs : List Smp) (w : World) (h1 : RdS w w.heap.size A1 n xs) (h2 : RdS w w.heap.size A2 n xs) (m1 : n ≤ 64) :
    Calls Try.prog 10 #[.agg #[.int .i64 z, .slice A1 n c1], .agg #[.int .i64 z, .slice A2 n c2]] w fun e w' => e = .returned (.bool true) ∧ Below w.heap.size w w' := by
  have H1 := Lib.hid h1
  have H2 := Lib.hid h2
  clear h1 h2
  go_enter Try.func10, Try.ntmps10
  go_wp2_with fail
  refine (equal_yes _ _ _ _ _ xs _ (H1.out.after (((Below.refl _ _).alloc (Nat.le_refl _) _).alloc (by simp) _)) (H2.out.after (((Below.refl _ _).alloc (Nat.le_refl _) _).alloc (by simp) _)) m1).mono ?_
  rintro e w' ⟨rfl, q, rfl⟩
  go_wp2_with fail
  go_ret
  exact ⟨rfl, below_drewN (((Below.refl _ _).alloc (Nat.le_refl _) _).alloc (by simp) _) _⟩

/-- head.Same of heads of two lengths. -/
theorem same_no (z : Int) (A1 A2 : Option Addr) (n1 n2 c1 c2 : Nat) (w : World) (hn : n1 ≠ n2) :
    Calls Try.prog 10 #[.agg #[.int .i64 z, .slice A1 n1 c1], .agg #[.int .i64 z, .slice A2 n2 c2]] w fun e w' => e = .returned (.bool false) ∧ Below w.heap.size w w' := by
  have HN := Lib.hid hn
  clear hn
  go_enter Try.func10, Try.ntmps10
  go_wp2_with fail
  refine (equal_no _ _ _ _ _ _ _ HN.out).mono ?_
  rintro e w' ⟨rfl, q, rfl⟩
  go_wp2_with fail
  go_ret
  exact ⟨rfl, below_drewN (((Below.refl _ _).alloc (Nat.le_refl _) _).alloc (by simp) _) _⟩
end Go.Proofs.Ytjimaanleamgjaa
