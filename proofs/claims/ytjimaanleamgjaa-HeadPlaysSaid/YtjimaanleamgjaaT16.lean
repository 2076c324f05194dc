import Derived.Test.YtjimaanleamgjaaT15
namespace Go.Proofs.Ytjimaanleamgjaa
open Go.RowKit

set_option maxHeartbeats 2000000 in
/-- The reference's Rising. -/
theorem refRising_any (A : Option Addr) (n c : Nat) (z : Int) (xs : List Smp) (w : World) (h : RdS w w.heap.size A n xs) (ok : Ok z xs) :
    Calls Try.prog 27 #[.slice A n c] w fun e w' => e = .returned (.bool true) ∧ ∃ q, w' = w.drewN q := by
  have m1 : n ≤ 64 := by rw [← h.1]; exact ok.len
  have H := Lib.hid h
  have OK := Lib.hid ok
  have z0 := ok.z0
  clear h ok
  go_enter Try.func27, Try.ntmps27
  go_wp2
  go_loopg [3] n (fun g v wr => ∃ k : Nat, k ≤ n ∧ n - k ≤ g ∧ v = .int .i64 k ∧ Hid (∃ q, wr = w.drewN q))
  case atStart => exact ⟨0, by omega, by omega, rfl, ⟨0, rfl⟩⟩
  case round =>
    obtain ⟨k, hk1, hg, rfl, HW⟩ := hrel
    by_cases hl1 : k < n
    · obtain ⟨b1, o1, x, rfl, hb1, hx, r1⟩ := H.out.at_ k hl1
      have hw : ∀ p : Addr, wr.cell? p = w.cell? p := by obtain ⟨q, rfl⟩ := HW.out; intro p; simp
      obtain ⟨p0, p1⟩ := r1.keep (w' := wr) fun p _ => hw p
      have lo := OK.out.lo x (List.mem_of_getElem? hx)
      have hi := OK.out.hi x (List.mem_of_getElem? hx)
      have t0 : decide (x.t < 0) = false := by simp; omega
      have t1 : decide ((1099511627776 : Int) < x.t) = false := by simp; omega
      by_cases hk0 : k = 0
      · subst hk0
        simp only [Nat.zero_mul, Nat.add_zero] at p0 p1
        have HX := Lib.hid hx
        clear r1 hx hw
        go_wp2_with fail
        go_quiet (fail)
        go_wp2
        go_roundg (n - (0 + 1))
        case measure => omega
        case rel => exact ⟨1, by omega, by omega, by go_num, by obtain ⟨q, rfl⟩ := HW.out; exact ⟨q + nq, by simp⟩⟩
      · obtain ⟨b2, o2, y, hA, hb2, hy, r2⟩ := H.out.at_ (k - 1) (by omega)
        obtain rfl : b1 = b2 := by injection hA with h; injection h
        obtain rfl : o1 = o2 := by injection hA with h; injection h
        obtain ⟨q0, q1⟩ := r2.keep (w' := wr) fun p _ => hw p
        have hlt := rise_get OK.out.rise (show k - 1 < k by omega) hy hx
        have t2 : decide (x.t ≤ y.t) = false := by simp; omega
        have e0 : 0 < k := by omega
        have e1 : IntKind.i64.wrap ((k : Int) - 1) = (k : Int) - 1 := IntWalk.i64_in _ (by omega)
        have e2 : ((k : Int) - 1).toNat = k - 1 := by omega
        have e3 : 0 ≤ (k : Int) - 1 := by omega
        have e4 : (k : Int) - 1 < (n : Int) := by omega
        have e8 : (1 : Int) ≤ (k : Int) := by omega
        have e9 : 1 ≤ k := by omega
        have e10 : decide (0 < k) = true := by simp; omega
        clear r1 r2 hx hy hw hA
        go_wp2_with fail
        go_quiet (fail)
        clear e1 e2
        go_wp2
        go_roundg (n - (k + 1))
        case measure => omega
        case rel => exact ⟨k + 1, by omega, by omega, by go_num, by obtain ⟨q, rfl⟩ := HW.out; exact ⟨q + nq, by simp⟩⟩
    · go_wp2
      go_ret
      exact ⟨rfl, HW.out⟩

set_option maxHeartbeats 2000000 in
/-- The reference's MayHead, of a head that may be. -/
theorem refMay_any (z : Int) (A : Option Addr) (n c : Nat) (xs : List Smp) (w : World) (h : RdS w w.heap.size A n xs) (ok : Ok z xs) :
    Calls Try.prog 22 #[.agg #[.int .i64 z, .slice A n c]] w fun e w' => e = .returned (.bool true) ∧ Below w.heap.size w w' := by
  have m1 : n ≤ 64 := by rw [← h.1]; exact ok.len
  have z0 := ok.z0
  have z1 := ok.z1
  have H := Lib.hid h
  have OK := Lib.hid ok
  by_cases hz : n = 0
  · subst hz
    clear h ok
    go_enter Try.func22, Try.ntmps22
    go_wp2_with fail
    go_quiet ((go_at_call 27; exact Calls.quiet_of (refRising_any _ _ _ z xs _ (H.out.after (below_drewN (below_alloc _ _) _)) OK.out)))
    go_wp2
    go_ret
    exact ⟨rfl, below_drewN (by go_grown) _⟩
  · obtain ⟨b1, o1, x, hA, hb1, hx, r1⟩ := h.at_ 0 (by omega)
    obtain ⟨b2, o2, y, hA2, hb2, hy, r2⟩ := h.at_ (n - 1) (by omega)
    obtain rfl : b1 = b2 := by rw [hA] at hA2; injection hA2 with h; injection h
    obtain rfl : o1 = o2 := by rw [hA] at hA2; injection hA2 with h; injection h
    subst hA
    have lx : z ≤ x.t := ok.lo x (List.mem_of_getElem? hx)
    have hi : y.t < 1099511627776 := ok.hi y (List.mem_of_getElem? hy)
    have p0 := r1.c0
    have q0 := r2.c0
    simp only [Nat.zero_mul, Nat.add_zero] at p0
    have e0 : ((n : Int) == 0) = false := by simp; omega
    have e1 : IntKind.i64.wrap ((n : Int) - 1) = (n : Int) - 1 := IntWalk.i64_in _ (by omega)
    have e2 : ((n : Int) - 1).toNat = n - 1 := by omega
    have e3 : 0 ≤ (n : Int) - 1 := by omega
    have e4 : (n : Int) - 1 < (n : Int) := by omega
    have e5 : 0 < n := by omega
    have e6 : (n : Int) ≤ 64 := by omega
    have e7 : decide ((n : Int) ≤ 64) = true := by simp; omega
    have e8 : (1 : Int) ≤ (n : Int) := by omega
    have e9 : 1 ≤ n := by omega
    clear h ok hx hy r1 r2 hA2
    go_enter Try.func22, Try.ntmps22
    go_wp2_with fail
    go_quiet ((go_at_call 27; exact Calls.quiet_of (refRising_any _ _ _ z xs _ (H.out.after (below_drewN (below_alloc _ _) _)) OK.out)))
    clear e1 e2
    go_wp2
    go_ret
    exact ⟨rfl, below_drewN (by go_grown) _⟩

/-- The law's same, of one head. -/
theorem lawSame_any (z : Int) (A1 A2 : Option Addr) (n c1 c2 : Nat) (xs : List Smp) (w : World) (h1 : RdS w w.heap.size A1 n xs) (h2 : RdS w w.heap.size A2 n xs) (m1 : n ≤ 64) :
    Calls Try.prog 13 #[.agg #[.int .i64 z, .slice A1 n c1], .agg #[.int .i64 z, .slice A2 n c2]] w fun e w' => e = .returned (.bool true) ∧ Below w.heap.size w w' := by
  have H1 := Lib.hid h1
  have H2 := Lib.hid h2
  clear h1 h2
  go_enter Try.func13, Try.ntmps13
  go_wp2_with fail
  refine (sameSmp_any _ _ _ _ _ xs _ (H1.out.after (((Below.refl _ _).alloc (Nat.le_refl _) _).alloc (by simp) _)) (H2.out.after (((Below.refl _ _).alloc (Nat.le_refl _) _).alloc (by simp) _)) m1).mono ?_
  rintro e w' ⟨rfl, q, rfl⟩
  go_wp2_with fail
  go_ret
  exact ⟨rfl, below_drewN (((Below.refl _ _).alloc (Nat.le_refl _) _).alloc (by simp) _) _⟩
end Go.Proofs.Ytjimaanleamgjaa
