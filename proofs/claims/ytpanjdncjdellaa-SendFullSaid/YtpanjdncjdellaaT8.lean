import Derived.Test.YtpanjdncjdellaaT7
namespace Go.Proofs.Ytpanjdncjdellaa
open Go.RowKit

abbrev bodyO : List Value := [.int .u8 1]
theorem repl_succ (i : Nat) (h : i < 1000) : List.replicate (min (i + 1) 1000) bodyO = List.replicate (min i 1000) bodyO ++ [bodyO] := by
  rw [show min (i + 1) 1000 = i + 1 by omega, show min i 1000 = i by omega, List.replicate_succ']
theorem mk_cells : ∃ MC, ∀ W : World, (Instr.makeSlice 26 (.int .i64 4101) (.int .i64 4101)).run Try.prog W = .ok (.slice (some ⟨W.heap.size, 0, none⟩) 4101 4101) (W.alloc (.cells MC 5)) := by
  obtain ⟨i0, hi, hz0, hz1, hz2⟩ := info_parts byte_info
  exact ⟨_, fun W => run_make (P := Try.prog) W 26 5 i0 (.int .u8 0) Try.underlying26 hi hz0 .i64 .i64 4101 4101 (by decide) (by decide) (by rw [hz2]; decide) (by decide)⟩

set_option maxHeartbeats 4000000 in
set_option maxRecDepth 100000 in
theorem full_any (n : Int) (w : World) : Calls Try.prog 3 #[.int .i64 n] w fun e w' => e = .returned (.bool true) ∧ Below w.heap.size w w' := by
  obtain ⟨r, hr, hrl⟩ := rem_nat n 5 (by omega)
  have hu := u64_nn n
  have hw1 : IntKind.i64.wrap (r : Int) = (r : Int) := i64_id (by omega) (by omega)
  have hw2 : IntKind.i64.wrap (998 + (r : Int)) = 998 + (r : Int) := i64_id (by omega) (by omega)
  obtain ⟨MC, hmk⟩ := mk_cells
  go_enter Try.func3, Try.ntmps3
  go_wp2_with fail
  refine (new_any w).mono ?_
  rintro e w1 ⟨rfl, i1, b1⟩
  have I1 := Lib.hid i1
  have B1 := Lib.hid b1
  clear i1 b1
  go_wp2_with fail
  have hrl' : r ≤ 4 := by omega
  clear hr
  go_loopg [5, 6] 1002 (fun gh s5 _ wr => ∃ i : Nat, i ≤ 998 + r ∧ 998 + r - i ≤ gh ∧ s5 = .int .i64 i ∧ Inv wr w.heap.size w.heap.size ⟨List.replicate (min i 1000) bodyO, 0, 0, 2, -1, 0⟩ ∧ Below w.heap.size w wr)
  case atStart => exact ⟨0, by omega, by omega, rfl, I1.out, B1.out⟩
  case round =>
    obtain ⟨i, hi, hgh, rfl, i2, b2⟩ := hrel
    have IA := Lib.hid (i2.below ((Below.refl _ _).alloc (Nat.le_refl _) (.cells #[.int .u8 1] 5)))
    have B2 := Lib.hid b2
    have I2 := Lib.hid i2
    clear i2 b2
    have hwi : IntKind.i64.wrap ((i : Int) + 1) = (i : Int) + 1 := i64_id (by omega) (by omega)
    by_cases hl : i < 998 + r
    · have hlt : (i : Int) < 998 + (r : Int) := by omega
      by_cases h1000 : i < 1000
      · have hd : decide ((i : Int) < 1000) = true := by simp; omega
        go_wp2_with fail
        refine (put_ok w.heap.size w.heap.size _ _ 1 1 bodyO _ IA.out (Rd.newE rfl (by simp) rfl rfl) (fun h => by cases h) (by simp; rfl) (by omega) (by simp; omega)).mono ?_
        rintro e w3 ⟨rfl, i3, b3⟩
        have b4 : Below w.heap.size w w3 := (B2.out.alloc (by have := B2.out.size; omega) _).trans b3
        clear b3
        go_wp2
        go_roundg (998 + r - (i + 1))
        case measure => omega
        case rel => exact ⟨i + 1, by omega, by omega, by go_num, (by rw [repl_succ i (by omega)]; exact i3), b4⟩
      · have hd : decide ((i : Int) < 1000) = false := by simp; omega
        go_wp2_with fail
        refine (put_full w.heap.size w.heap.size _ _ 1 1 _ IA.out (by omega) (by simp; omega)).mono ?_
        rintro e w3 ⟨rfl, rfl⟩
        go_wp2
        go_roundg (998 + r - (i + 1))
        case measure => omega
        case rel => exact ⟨i + 1, by omega, by omega, by go_num, (by rw [show min (i + 1) 1000 = min i 1000 by omega]; exact IA.out), B2.out.alloc (by have := B2.out.size; omega) _⟩
    · have hlt : decide ((i : Int) < 998 + (r : Int)) = false := by simp; omega
      obtain rfl : i = 998 + r := by omega
      go_wp2_with fail
      clear IA I1 B1
      generalize hLL : List.replicate (min (998 + r) 1000) bodyO = L at I2
      have hLn : L.length = min (998 + r) 1000 := by rw [← hLL]; simp
      clear hLL hwi
      have hL1 : 998 ≤ L.length := by omega
      have hL2 : L.length ≤ 1000 := by omega
      have top8 : St.top ⟨L, 0, 0, 2, -1, 0⟩ = 8 := by simp only [St.top]; omega
      refine (out_fresh w.heap.size w.heap.size _ 5 _ I2.out (.inl rfl) (by simp) (by simp) (by decide) (by simp) (by simp) (by simp) (by simp) (by simp)).mono ?_
      rintro e w4 ⟨Aa, ma, ca, rfl, hma, oa, i4, g4⟩
      rw [top8] at hma
      obtain rfl : ma = 8 := by simp at hma; omega
      rw [show St.out ⟨L, 0, 0, 2, -1, 0⟩ 5 = ⟨L, 0, 8, 2, 7, 5⟩ by simp [St.out, top8]] at i4
      have B4 := Lib.hid (B2.out.trans (below_grown g4 (Nat.le_refl _) B2.out.size))
      have I4 := Lib.hid i4
      clear i4 g4 oa I2 B2 hma
      go_wp2_with fail
      refine (ack_ok w.heap.size w.heap.size _ 1 _ I4.out (by simp) (by simp) (by simp) (by show (1 : Int) ≤ 0 + (L.length : Int); omega) (by simp) (by simp) (by simp)).mono ?_
      rintro e w5 ⟨rfl, i5, g5⟩
      rw [show St.ack ⟨L, 0, 8, 2, 7, 5⟩ 1 = ⟨L.drop 1, 1, 8, 2, 7, 5⟩ by simp [St.ack]] at i5
      have B5 := Lib.hid (B4.out.trans (below_grown g5 (Nat.le_refl _) B4.out.size))
      have I5 := Lib.hid i5
      clear i5 g5 I4 B4
      go_wp2_with fail
      refine (put_ok w.heap.size w.heap.size _ none 0 0 [] _ I5.out (Rd.nil_ _ _ _ _) (fun _ => ⟨rfl, rfl⟩) (by simp) (by omega) (by simp; omega)).mono ?_
      rintro e w6 ⟨rfl, i6, b6⟩
      have B6 := Lib.hid (B5.out.trans b6)
      have I6 := Lib.hid i6
      clear i6 b6 I5 B5
      go_wp2_with fail
      refine (put_range w.heap.size w.heap.size _ _ 4101 _ _ (I6.out.below ((Below.refl _ _).alloc (Nat.le_refl _) _)) (by omega)).mono ?_
      rintro e w7 ⟨rfl, rfl⟩
      have B7 := Lib.hid (B6.out.alloc (by have := B6.out.size; omega) (.cells MC 5))
      have I7 := Lib.hid (I6.out.below ((Below.refl _ _).alloc (Nat.le_refl _) (.cells MC 5)))
      clear I6 B6
      generalize w6.alloc (.cells MC 5) = w8 at B7 I7 ⊢
      go_wp2_with fail
      refine (told_any _).mono ?_
      rintro e w9 ⟨rfl, b9⟩
      have B9 := Lib.hid (below_after B7.out b9 B7.out.size)
      have I9 := Lib.hid (I7.out.below b9)
      clear b9 B7 I7
      go_wp2_with fail
      refine (len_any _ _ _ _ I9.out).mono ?_
      rintro e w10 ⟨rfl, rfl⟩
      have hlen : (((St.put ⟨L.drop 1, 1, 8, 2, 7, 5⟩ []).l.length : Nat) : Int) = (L.length : Int) := by simp [St.put]; omega
      rw [hlen]
      by_cases hk : 1000 < 998 + r
      · have hk1 : ((1000 : Int) < 998 + (r : Int)) = True := by simp; omega
        have hk2 : (L.length : Int) = 1000 := by omega
        rw [hk2]
        clear hLn hL1 hL2 hk2
        go_wp2
        go_ret
        exact ⟨rfl, B9.out⟩
      · have hk1 : ((1000 : Int) < 998 + (r : Int)) = False := by simp; omega
        have hk2 : (L.length : Int) = 998 + (r : Int) := by omega
        rw [hk2]
        clear hLn hL1 hL2 hk2
        go_wp2
        go_ret
        exact ⟨rfl, B9.out⟩
end Go.Proofs.Ytpanjdncjdellaa
