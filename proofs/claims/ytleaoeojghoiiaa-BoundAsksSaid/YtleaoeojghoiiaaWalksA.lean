/-
  What bound.Rounds and the reference's Rounds return, and that the law's own examples (told) hold: for every int64.
-/
import Derived.Test.YtleaoeojghoiiaaRows
import Derived.WalkKit
import Derived.WalkLawsBesides
import Derived.Handy
namespace Go.Proofs.Ytleaoeojghoiiaa
open Go.RowKit

/-- 800 plus 400 for each segment, of which at least 0 and at most 10000 count. -/
def rnd (n : Int) : Int := 800 + 400 * min (max n 0) 10000

theorem ret_int {k : IntKind} {a b : Int} (h : a = b) : Ending.returned (.int k a) = .returned (.int k b) := by rw [h]

theorem rounds_any (n : Int) (w : World) : Calls Try.prog 7 #[.int .i64 n] w fun e w' => e = .returned (.int .i64 (rnd n)) ∧ w = w' := by
  go_enter Try.func7, Try.ntmps7
  go_wp2
  all_goals
    go_ret
    exact ⟨ret_int (by unfold rnd; omega), rfl⟩

theorem ref_rounds_any (n : Int) (w : World) : Calls Try.prog 8 #[.int .i64 n] w fun e w' => e = .returned (.int .i64 (rnd n)) ∧ w = w' := by
  go_enter Try.func8, Try.ntmps8
  go_wp2
  all_goals
    go_ret
    exact ⟨ret_int (by unfold rnd; omega), rfl⟩

theorem told_any (w : World) : Calls Try.prog 6 #[] w fun e w' => e = .returned (.bool true) ∧ w = w' := by
  have h0 : rnd 0 = 800 := by decide
  have h1 : rnd (-4) = 800 := by decide
  have h2 : rnd 2 = 1600 := by decide
  have h3 : rnd 1099511627776 = 4000800 := by decide
  go_enter Try.func6, Try.ntmps6
  go_wp2_with (go_at_call 7; refine (rounds_any _ _).mono ?_; rintro e w' ⟨rfl, rfl⟩)
  go_ret
  exact ⟨rfl, rfl⟩

theorem rnd_lo (n : Int) : 800 ≤ rnd n := by unfold rnd; omega
theorem rnd_hi (n : Int) : rnd n ≤ 4000800 := by unfold rnd; omega

theorem asks_any (n : Int) (w : World) : Calls Try.prog 3 #[.int .i64 n] w fun e w' => e = .returned (.bool true) ∧ w = w' := by
  go_enter Try.func3, Try.ntmps3
  go_wp2_with (first | (go_at_call 6; refine (told_any _).mono ?_; rintro e w' ⟨rfl, rfl⟩) | (go_at_call 7; refine (rounds_any _ _).mono ?_; rintro e w' ⟨rfl, rfl⟩) | (go_at_call 8; refine (ref_rounds_any _ _).mono ?_; rintro e w' ⟨rfl, rfl⟩))
  go_ret
  exact ⟨by simp, rfl⟩

theorem u64_nn (n : Int) : 0 ≤ IntKind.u64.wrap n := by
  simp [IntKind.wrap, IntKind.bits, IntKind.signed]; omega

theorem rnd_step (k : Int) (h0 : 0 ≤ k) (h1 : k ≤ 9999) : rnd (k + 1) - rnd k = 400 := by unfold rnd; omega

theorem rnd_neg (n : Int) (h : n ≤ 0) : rnd n = 800 := by unfold rnd; omega
theorem rnd_big (n : Int) (h : 10000 ≤ n) : rnd n = 4000800 := by unfold rnd; omega

theorem grows_any (n : Int) (w : World) : Calls Try.prog 4 #[.int .i64 n] w fun e w' => e = .returned (.bool true) ∧ w = w' := by
  have hu := u64_nn n
  have a := rnd_lo (IntKind.u64.wrap n % 9999)
  have b := rnd_hi (IntKind.u64.wrap n % 9999)
  have c := rnd_lo (IntKind.u64.wrap n % 9999 + 1)
  have d := rnd_hi (IntKind.u64.wrap n % 9999 + 1)
  have hs := rnd_step (IntKind.u64.wrap n % 9999) (by omega) (by omega)
  go_enter Try.func4, Try.ntmps4
  go_wp2_with (first | (go_at_call 6; refine (told_any _).mono ?_; rintro e w' ⟨rfl, rfl⟩) | (go_at_call 7; refine (rounds_any _ _).mono ?_; rintro e w' ⟨rfl, rfl⟩))
  go_ret
  exact ⟨by simp, rfl⟩

theorem ends_any (n : Int) (w : World) : Calls Try.prog 5 #[.int .i64 n] w fun e w' => e = .returned (.bool true) ∧ w = w' := by
  have hlo := rnd_lo n
  have hhi := rnd_hi n
  by_cases h0 : n ≤ 0
  · have e0 := rnd_neg n h0
    go_enter Try.func5, Try.ntmps5
    go_wp2_with (first | (go_at_call 6; refine (told_any _).mono ?_; rintro e w' ⟨rfl, rfl⟩) | (go_at_call 7; refine (rounds_any _ _).mono ?_; rintro e w' ⟨rfl, rfl⟩))
    go_ret
    exact ⟨by simp, rfl⟩
  · by_cases h1 : 10000 ≤ n
    · have e0 := rnd_big n h1
      go_enter Try.func5, Try.ntmps5
      go_wp2_with (first | (go_at_call 6; refine (told_any _).mono ?_; rintro e w' ⟨rfl, rfl⟩) | (go_at_call 7; refine (rounds_any _ _).mono ?_; rintro e w' ⟨rfl, rfl⟩))
      go_ret
      exact ⟨by simp, rfl⟩
    · go_enter Try.func5, Try.ntmps5
      go_wp2_with (first | (go_at_call 6; refine (told_any _).mono ?_; rintro e w' ⟨rfl, rfl⟩) | (go_at_call 7; refine (rounds_any _ _).mono ?_; rintro e w' ⟨rfl, rfl⟩))
      go_ret
      exact ⟨by simp, rfl⟩

theorem asks_below (n : Int) (w : World) (_h : (Lit.int .i64 n).wf = true) : Calls Try.prog 3 #[.int .i64 n] w fun e w' => e = .returned (.bool true) ∧ Below w.heap.size w w' :=
  (asks_any n w).mono fun _ _ ⟨he, hw⟩ => ⟨he, hw ▸ Below.refl _ _⟩

theorem grows_below (n : Int) (w : World) (_h : (Lit.int .i64 n).wf = true) : Calls Try.prog 4 #[.int .i64 n] w fun e w' => e = .returned (.bool true) ∧ Below w.heap.size w w' :=
  (grows_any n w).mono fun _ _ ⟨he, hw⟩ => ⟨he, hw ▸ Below.refl _ _⟩

theorem ends_below (n : Int) (w : World) (_h : (Lit.int .i64 n).wf = true) : Calls Try.prog 5 #[.int .i64 n] w fun e w' => e = .returned (.bool true) ∧ Below w.heap.size w w' :=
  (ends_any n w).mono fun _ _ ⟨he, hw⟩ => ⟨he, hw ▸ Below.refl _ _⟩

end Go.Proofs.Ytleaoeojghoiiaa
