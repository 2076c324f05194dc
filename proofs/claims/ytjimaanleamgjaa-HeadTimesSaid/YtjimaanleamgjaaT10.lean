import Derived.Test.YtjimaanleamgjaaT9
namespace Go.Proofs.Ytjimaanleamgjaa
open Go.RowKit

set_option maxHeartbeats 2000000 in
set_option maxRecDepth 100000 in
/-- head.May: a time below the bound. -/
theorem may_low (z z1 : Int) (A : Option Addr) (n c : Nat) (xs : List Smp) (x : Smp) (w : World) (h : RdS w w.heap.size A n xs) (ok : Ok z xs) (hx : xs[0]? = some x) (hz0 : 0 ≤ z1) (hz1 : z1 ≤ 1099511627776) (hlt : x.t < z1) :
    Calls Try.prog 11 #[.agg #[.int .i64 z1, .slice A n c]] w fun e w' => e = .returned (.bool false) ∧ Below w.heap.size w w' := by
  have hn : 0 < n := by rw [← h.1]; exact (List.getElem?_eq_some_iff.1 hx).1
  have m1 : n ≤ 64 := by rw [← h.1]; exact ok.len
  obtain ⟨b1, o1, x', hA, hb1, hx', r1⟩ := h.at_ 0 hn
  obtain rfl : x = x' := by rw [hx] at hx'; exact Option.some.inj hx'
  subst hA
  have p0 := r1.c0
  simp only [Nat.zero_mul, Nat.add_zero] at p0
  have e0 : ((n : Int) == 0) = false := by simp; omega
  have e5 : 0 < n := by omega
  have e6 : (n : Int) ≤ 64 := by omega
  have e7 : decide ((n : Int) ≤ 64) = true := by simp; omega
  have e8 : decide (z1 ≤ x.t) = false := by simp; omega
  have H := Lib.hid h
  have OK := Lib.hid ok
  clear h ok hx hx' r1
  go_enter Try.func11, Try.ntmps11
  go_wp2_with fail
  (first
    | (go_region_held3 (fun w' => Below w.heap.size w w' ∧ w'.cell? ⟨w.heap.size, 0, none⟩ = some (.int .i64 z1) ∧ w'.cell? ⟨w.heap.size, 1, none⟩ = some (.slice (some ⟨b1, o1, none⟩) n c) ∧ w'.cell? ⟨b1, o1, none⟩ = some (.int .i64 x.t))
        (first | exact K5 | exact ⟨by go_grown, by simp, by simp, by simp [World.cell?_alloc_lt, *]⟩)
        (first
          | (go_at_call 21
             with_reducible refine (rising_any _ _ _ z xs _ ((H.out.below (by go_grown)).more (by simp)) OK.out).mono ?_
             rintro e w5 ⟨rfl, hb⟩
             have K5 : Below w.heap.size w w5 ∧ w5.cell? ⟨w.heap.size, 0, none⟩ = some (.int .i64 z1) ∧ w5.cell? ⟨w.heap.size, 1, none⟩ = some (.slice (some ⟨b1, o1, none⟩) n c) ∧ w5.cell? ⟨b1, o1, none⟩ = some (.int .i64 x.t) :=
               ⟨below_after (by go_grown) hb (by simp), cell_after hb (by simp), cell_after hb (by simp), cell_after hb (by simp [World.cell?_alloc_lt, *])⟩)))
    | fail)
  all_goals
    go_wp2
    go_ret
    exact ⟨rfl, K5.1⟩
end Go.Proofs.Ytjimaanleamgjaa
