import Derived.Test.YtjimaanleamgjaaT5
import Derived.Deep.RegionHeld3
import Derived.IntWalk
namespace Go.Proofs.Ytjimaanleamgjaa
open Go.RowKit

/-- slices.Insert(s, i, x): s of the call's own. -/
theorem insert_any (base : Nat) (v : Value) (n i : Nat) (xs : List Smp) (s : Smp) (vb : Nat) (w : World) (hl : xs.length = n) (hi : i ≤ n) (hown : Own w base 30 2 v n (xs.flatMap Smp.enc)) (hb : base ≤ w.heap.size)
    (hn : n ≤ 64) (hvb : w.heap[vb]? = some (.cells s.enc.toArray 30 (0, 0))) (hne : v.ownBlock ≠ some vb) :
    Calls Try.prog 18 #[v, .int .i64 i, .slice (some ⟨vb, 0, none⟩) 1 1] w (Placed w base v (n + 1) (xs.take i ++ s :: xs.drop i)) := by
  by_cases h : i = n
  · subst h
    have := insert_end base v i xs s vb w hl hown hb hn hvb
    rw [List.take_of_length_le (by omega), List.drop_eq_nil_of_le (by omega)]
    exact this
  · have hi' : i < n := by omega
    have h2 := hown.2
    rcases h2 with ⟨_, h0⟩ | ⟨g, off, cap, cur, rfl, hbg, hg, hnc, hcm, hsz, ht⟩
    · omega
    · by_cases hr : n + 1 ≤ cap
      · exact insert_shift base g off n cap i xs s vb w hl hi' hr hown hn hvb (fun e => hne (by simp [Value.ownBlock, e]))
      · obtain rfl : cap = n := by omega
        exact insert_grow base g off cap i xs s vb w hl hi' hown hb hn hvb

/-- tier.Rising of nothing. -/
theorem rising_nil (A : Option Addr) (c : Nat) (w : World) : Calls Try.prog 21 #[.slice A 0 c] w fun e w' => e = .returned (.bool true) ∧ w' = w := by
  go_enter Try.func21, Try.ntmps21
  go_wp2; go_step3; go_wp2; go_step3; go_wp2
  go_loopg [3, 8] 0 (fun g s3 v wr => v = .int .i64 0 ∧ wr = w)
  case atStart => exact ⟨rfl, rfl⟩
  case round =>
    obtain ⟨rfl, rfl⟩ := hrel
    go_wp2
    rw [Exit.noGoto_ret]
    go_ret
    exact ⟨rfl, rfl⟩

set_option maxHeartbeats 2000000 in
/-- head.May of a head that may be. -/
theorem may_any (z : Int) (A : Option Addr) (n c : Nat) (xs : List Smp) (w : World) (h : RdS w w.heap.size A n xs) (ok : Ok z xs) :
    Calls Try.prog 11 #[.agg #[.int .i64 z, .slice A n c]] w fun e w' => e = .returned (.bool true) ∧ Below w.heap.size w w' := by
  have m1 : n ≤ 64 := by rw [← h.1]; exact ok.len
  have z0 := ok.z0
  have z1 := ok.z1
  by_cases hz : n = 0
  · subst hz
    clear h ok m1
    go_enter Try.func11, Try.ntmps11
    go_wp2_with fail
    go_quiet ((go_at_call 21; exact Calls.quiet_of_same (rising_nil _ _ _)))
    go_wp2
    go_ret
    exact ⟨rfl, below_drewN (by go_grown) _⟩
  · obtain ⟨b1, o1, x, hA, hb1, hx, r1⟩ := h.at_ 0 (by omega)
    obtain ⟨b2, o2, y, hA2, hb2, hy, r2⟩ := h.at_ (n - 1) (by omega)
    obtain rfl : b1 = b2 := by rw [hA] at hA2; injection hA2 with h; injection h
    obtain rfl : o1 = o2 := by rw [hA] at hA2; injection hA2 with h; injection h
    subst hA
    have lx : z ≤ x.t := ok.lo x (List.mem_of_getElem? hx)
    have hi : y.t < 1099511627776 := ok.hi y (List.mem_of_getElem? hy)
    have p0 := r1.c0
    have q0 := r2.c0
    simp only [Nat.zero_mul, Nat.add_zero] at p0
    have e0 : ((n : Int) == 0) = false := by simp; omega
    have e1 : IntKind.i64.wrap ((n : Int) - 1) = (n : Int) - 1 := IntWalk.i64_in _ (by omega)
    have e2 : ((n : Int) - 1).toNat = n - 1 := by omega
    have e3 : 0 ≤ (n : Int) - 1 := by omega
    have e4 : (n : Int) - 1 < (n : Int) := by omega
    have e5 : 0 < n := by omega
    have e8 : (1 : Int) ≤ (n : Int) := by omega
    have e9 : 1 ≤ n := by omega
    have e6 : (n : Int) ≤ 64 := by omega
    have e7 : decide ((n : Int) ≤ 64) = true := by simp; omega
    have H := Lib.hid h
    have OK := Lib.hid ok
    clear h ok hx hy r1 r2 hA2
    go_enter Try.func11, Try.ntmps11
    go_wp2_with fail
    go_region_held3 (fun w' => Below w.heap.size w w' ∧ w'.cell? ⟨w.heap.size, 0, none⟩ = some (.int .i64 z) ∧ w'.cell? ⟨w.heap.size, 1, none⟩ = some (.slice (some ⟨b1, o1, none⟩) n c) ∧ w'.cell? ⟨b1, o1, none⟩ = some (.int .i64 x.t) ∧ w'.cell? ⟨b1, o1 + (n - 1) * 2, none⟩ = some (.int .i64 y.t))
      (first | exact K5 | exact ⟨by go_grown, by simp, by simp, by simp [World.cell?_alloc_lt, *], by simp [World.cell?_alloc_lt, *]⟩)
      (first
        | (go_at_call 21
           with_reducible refine (rising_any _ _ _ z xs _ ((H.out.below (by go_grown)).more (by simp)) OK.out).mono ?_
           rintro e w5 ⟨rfl, hb⟩
           have K5 : Below w.heap.size w w5 ∧ w5.cell? ⟨w.heap.size, 0, none⟩ = some (.int .i64 z) ∧ w5.cell? ⟨w.heap.size, 1, none⟩ = some (.slice (some ⟨b1, o1, none⟩) n c) ∧ w5.cell? ⟨b1, o1, none⟩ = some (.int .i64 x.t) ∧ w5.cell? ⟨b1, o1 + (n - 1) * 2, none⟩ = some (.int .i64 y.t) :=
             ⟨below_after (by go_grown) hb (by simp), cell_after hb (by simp), cell_after hb (by simp), cell_after hb (by simp [*]), cell_after hb (by simp [*])⟩))
    all_goals
      go_wp2
      go_ret
      exact ⟨rfl, K5.1⟩
end Go.Proofs.Ytjimaanleamgjaa
