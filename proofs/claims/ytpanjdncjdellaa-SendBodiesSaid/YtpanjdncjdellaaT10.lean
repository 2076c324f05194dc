import Derived.Test.YtpanjdncjdellaaT7
namespace Go.Proofs.Ytpanjdncjdellaa
open Go.RowKit

/-- The body of the number i. -/
def bod (i : Int) : List Value := [.int .u8 i, .int .u8 9]
/-- The bodies 1, .., n. -/
def bods (n : Nat) : List (List Value) := (List.range n).map fun (x : Nat) => bod ((x : Int) + 1)
theorem bods_len (n : Nat) : (bods n).length = n := by simp [bods]
theorem bods_succ (n : Nat) : bods n ++ [bod ((n : Int) + 1)] = bods (n + 1) := by
  unfold bods
  rw [List.range_succ, List.map_append]
  rfl
theorem bods_get {k a i : Nat} (h1 : a < i) (h2 : i ≤ k) : ((bods k).drop a)[i - a - 1]? = some (bod (i : Int)) := by
  rw [List.getElem?_drop, bods, List.getElem?_map, List.getElem?_range (by omega)]
  simp only [Option.map_some]
  rw [show ((a + (i - a - 1) : Nat) : Int) + 1 = (i : Int) by omega]

set_option maxHeartbeats 4000000 in
set_option maxRecDepth 100000 in
theorem bodies_any (n ack : Int) (w : World) : Calls Try.prog 5 #[.int .i64 n, .int .i64 ack] w fun e w' => e = .returned (.bool true) ∧ Below w.heap.size w w' := by
  obtain ⟨k, hk, hkl⟩ := rem_nat n 21 (by omega)
  have hu := u64_nn n
  have hua := u64_nn ack
  have hw1 : IntKind.i64.wrap (k : Int) = (k : Int) := i64_id (by omega) (by omega)
  go_enter Try.func5, Try.ntmps5
  go_wp2_with fail
  refine (new_any w).mono ?_
  rintro e w1 ⟨rfl, i1, b1⟩
  have I1 := Lib.hid i1
  have B1 := Lib.hid b1
  clear i1 b1
  go_wp2_with fail
  have hkl' : k ≤ 20 := by omega
  clear hk hkl
  go_loopg [7] 21 (fun gh s7 wr => ∃ i : Nat, i ≤ k ∧ k - i ≤ gh ∧ s7 = .int .i64 ((i : Int) + 1) ∧ Inv wr w.heap.size w.heap.size ⟨bods i, 0, 0, 2, -1, 0⟩ ∧ Below w.heap.size w wr)
  case atStart => exact ⟨0, by omega, by omega, rfl, I1.out, B1.out⟩
  case round =>
    obtain ⟨i, hi, hgh, rfl, i2, b2⟩ := hrel
    have I2 := Lib.hid i2
    have B2 := Lib.hid b2
    have hbl := bods_len i
    clear i2 b2
    have hwi : IntKind.i64.wrap ((i : Int) + 1 + 1) = (i : Int) + 1 + 1 := i64_id (by omega) (by omega)
    by_cases hl : i < k
    · have hlt : (i : Int) + 1 ≤ (k : Int) := by omega
      go_wp2_with fail
      refine (put_ok w.heap.size w.heap.size ⟨bods i, 0, 0, 2, -1, 0⟩ _ 2 2 (bod ((i : Int) + 1)) _ (I2.out.below ((Below.refl _ _).alloc (Nat.le_refl _) (.cells #[.int .u8 ((i : Int) + 1), .int .u8 9] 5))) (Rd.newE rfl (by simp) rfl rfl) (fun h => by cases h) (by simp [bod]; exact ⟨rfl, rfl⟩) (by omega) (by show (bods i).length < 1000; omega)).mono ?_
      rintro e w3 ⟨rfl, i3, b3⟩
      have b4 : Below w.heap.size w w3 := (B2.out.alloc (by have := B2.out.size; omega) _).trans b3
      clear b3
      go_wp2
      go_roundg (k - (i + 1))
      case measure => omega
      case rel => exact ⟨i + 1, by omega, by omega, by go_num, (by rw [← bods_succ]; exact i3), b4⟩
    · have hlt : decide ((i : Int) + 1 ≤ (k : Int)) = false := by simp; omega
      obtain rfl : i = k := by omega
      go_wp2_with fail
      clear hgh hlt hl hi I1 B1
      have tops : ∀ m : Nat, (m : Int) = St.top ⟨bods i, 0, 0, 2, -1, 0⟩ - 0 → m = min i 8 := fun m hm => by
        unfold St.top at hm
        simp only [hbl] at hm
        omega
      refine (out_fresh w.heap.size w.heap.size _ 0 _ I2.out (.inl rfl) (by simp) (by simp) (by simp) (by simp) (by simp) (by simp) (by simp) (by simp)).mono ?_
      rintro e w4 ⟨Al, m, cl, rfl, hm, ol, i4, g4⟩
      have hm8 := tops m hm
      have hmi : m ≤ i := by omega
      have hst : (St.out ⟨bods i, 0, 0, 2, -1, 0⟩ 0).sent = (m : Int) := by
        show St.top _ = _
        have := hm
        simp only [Int.sub_zero] at this
        exact this.symm
      have B4 := Lib.hid (B2.out.trans (below_grown g4 (Nat.le_refl _) B2.out.size))
      have I4 := Lib.hid i4
      have hac : (St.out ⟨bods i, 0, 0, 2, -1, 0⟩ 0).acked = 0 := rfl
      have hno : (St.out ⟨bods i, 0, 0, 2, -1, 0⟩ 0).now = 0 := rfl
      have hll : (St.out ⟨bods i, 0, 0, 2, -1, 0⟩ 0).l = bods i := rfl
      clear i4 g4 ol hm tops I2 B2
      generalize St.out ⟨bods i, 0, 0, 2, -1, 0⟩ 0 = s4 at I4 hst hac hno hll
      have hm1 : m ≤ 8 := by omega
      have hMM := Lib.hid hm8
      obtain ⟨a, hA, hal⟩ := rem_nat ack ((m : Int) + 1) (by omega)
      have ham : a ≤ m := by omega
      have hwm : IntKind.i64.wrap ((m : Int) + 1) = (m : Int) + 1 := i64_id (by omega) (by omega)
      have hwum : IntKind.u64.wrap ((m : Int) + 1) = (m : Int) + 1 := by simp [IntKind.wrap, IntKind.bits, IntKind.signed]; omega
      have hne : ((m : Int) + 1 == 0) = false := by rw [beq_eq_false_iff_ne]; omega
      have hwa : IntKind.i64.wrap (a : Int) = (a : Int) := i64_id (by omega) (by omega)
      clear hm8 hal
      go_wp2_with fail
      have hack : Calls Try.prog 9 #[.pointer (some ⟨w.heap.size, 0, none⟩), .int .i64 (a : Int)] w4 fun e w' => e = .returned (.int .i64 0) ∧ ∃ s5 : St, Inv w' w.heap.size w.heap.size s5 ∧ s5.l = (bods i).drop a ∧ s5.acked = (a : Int) ∧ w4.grownBy w' (some w.heap.size) := by
        by_cases h0 : a = 0
        · subst h0
          exact (ack_old w.heap.size w.heap.size s4 _ w4 I4.out (by simp) (by omega) (by omega)).mono fun e w' h => ⟨h.1, s4, h.2 ▸ I4.out, by rw [hll]; rfl, hac, h.2 ▸ grown_refl _ _⟩
        · exact (ack_ok w.heap.size w.heap.size s4 _ w4 I4.out (by omega) (by omega) (by omega) (by rw [hll, hbl]; omega) (by omega) (by omega) (by omega)).mono fun e w' h => ⟨h.1, _, h.2.1, by simp [St.ack, hll, hac], rfl, h.2.2⟩
      refine hack.mono ?_
      clear hack
      rintro e w5 ⟨rfl, s5, i5, hl5, ha5, g5⟩
      have B5 := Lib.hid (B4.out.trans (below_grown g5 (Nat.le_refl _) B4.out.size))
      have I5 := Lib.hid i5
      have L5 := Lib.hid hl5
      have A5 := Lib.hid ha5
      have L5n : Hid (s5.l.length = i - a) := Lib.hid (by rw [hl5, List.length_drop, hbl])
      clear i5 g5 hl5 ha5 I4 B4 hst hac hno hll hbl hA hne hwum hwm
      go_wp2_with fail
      go_loopg [10, 11, 12] 30 (fun gh s10 _ _ wr => ∃ x : Nat, x ≤ i + 2 ∧ i + 2 - x ≤ gh ∧ s10 = .int .i64 x ∧ Inv wr w.heap.size w.heap.size s5 ∧ Below w.heap.size w wr)
      case atStart => exact ⟨0, by omega, by omega, rfl, I5.out, B5.out⟩
      case round =>
        obtain ⟨x, hx, hgx, rfl, i6, b6⟩ := hrel
        clear I5 B5
        have I6 := Lib.hid i6
        have B6 := Lib.hid b6
        clear i6 b6
        have hwi1 : IntKind.i64.wrap ((i : Int) + 1) = (i : Int) + 1 := i64_id (by omega) (by omega)
        have hwx1 : IntKind.i64.wrap ((x : Int) + 1) = (x : Int) + 1 := i64_id (by omega) (by omega)
        have hwx : IntKind.i64.wrap (x : Int) = (x : Int) := i64_id (by omega) (by omega)
        by_cases hxi : x < i + 2
        · have hlx : (x : Int) ≤ (i : Int) + 1 := by omega
          have hacc := A5.out
          have hlen := L5n.out
          by_cases h1 : x ≤ a
          · have hd1 : decide ((a : Int) < (x : Int)) = false := by simp; omega
            go_wp2_with fail
            refine (body_old w.heap.size w.heap.size s5 _ _ I6.out (by omega)).mono ?_
            rintro e w7 ⟨rfl, b7⟩
            have I7 := Lib.hid (I6.out.below b7)
            have B7 := Lib.hid (below_after B6.out b7 B6.out.size)
            clear b7 hacc hlen
            go_wp2
            go_roundg (i + 2 - (x + 1))
            case measure => omega
            case rel => exact ⟨x + 1, by omega, by omega, by go_num, I7.out, B7.out⟩
          · by_cases h2 : x ≤ i
            · have hd1 : decide ((a : Int) < (x : Int)) = true := by simp; omega
              have hd2 : decide ((x : Int) ≤ (i : Int)) = true := by simp; omega
              have hget := bods_get (k := i) (a := a) (i := x) (by omega) h2
              rw [← L5.out] at hget
              go_wp2_with fail
              refine (body_some w.heap.size w.heap.size s5 _ (bod (x : Int)) (x - a - 1) _ I6.out (by omega) hget (by simp [bod]; exact ⟨rfl, rfl⟩) (by simp [bod]) (by omega)).mono ?_
              rintro e w7 ⟨v, rfl, ov, b7⟩
              have I7 := Lib.hid (I6.out.below b7)
              have B7 := Lib.hid (below_after B6.out b7 B6.out.size)
              obtain ⟨Ax, cx, rfl, _, _, _⟩ := ov.form
              obtain ⟨gx, fx, rfl, _, hcx⟩ := ov.rd.2 (by simp [bod])
              have dx : w7.cell? ⟨gx, fx, none⟩ = some (.int .u8 (x : Int)) := hcx 0 _ rfl
              have hbl2 : (bod (x : Int)).length = 2 := rfl
              rw [hbl2]
              clear b7 hacc hlen ov hcx hget
              go_wp2
              go_roundg (i + 2 - (x + 1))
              case measure => omega
              case rel => exact ⟨x + 1, by omega, by omega, by go_num, I7.out, B7.out⟩
            · have hd1 : decide ((a : Int) < (x : Int)) = true := by simp; omega
              have hd2 : decide ((x : Int) ≤ (i : Int)) = false := by simp; omega
              go_wp2_with fail
              refine (body_past w.heap.size w.heap.size s5 _ _ I6.out (by omega) (by omega) (by omega)).mono ?_
              rintro e w7 ⟨rfl, b7⟩
              have I7 := Lib.hid (I6.out.below b7)
              have B7 := Lib.hid (below_after B6.out b7 B6.out.size)
              clear b7 hacc hlen
              go_wp2
              go_roundg (i + 2 - (x + 1))
              case measure => omega
              case rel => exact ⟨x + 1, by omega, by omega, by go_num, I7.out, B7.out⟩
        · have hlx : decide ((x : Int) ≤ (i : Int) + 1) = false := by simp; omega
          go_wp2_with fail
          refine (told_any _).mono ?_
          rintro e w7 ⟨rfl, b7⟩
          have I7 := Lib.hid (I6.out.below b7)
          have B7 := Lib.hid (below_after B6.out b7 B6.out.size)
          clear b7 I6 B6
          have hcs : ((i - a : Nat) : Int) = (i : Int) - (a : Int) := by omega
          have hwc : IntKind.i64.wrap ((i : Int) - (a : Int)) = (i : Int) - (a : Int) := i64_id (by omega) (by omega)
          by_cases hi8 : 8 < i
          · have hm8 : m = 8 := by have := hMM.out; omega
            have hb1 : ((8 : Int) < (i : Int)) = True := by simp; omega
            subst hm8
            go_wp2_with fail
            refine (len_any _ _ _ _ I7.out).mono ?_
            rintro e w8 ⟨rfl, rfl⟩
            rw [L5n.out, hcs]
            go_wp2_with fail
            refine (acked_any _ _ _ _ I7.out).mono ?_
            rintro e w9 ⟨rfl, rfl⟩
            rw [A5.out]
            go_wp2
            go_ret
            exact ⟨rfl, B7.out⟩
          · have hm8 : m = i := by have := hMM.out; omega
            have hb1 : ((8 : Int) < (i : Int)) = False := by simp; omega
            subst hm8
            go_wp2_with fail
            refine (len_any _ _ _ _ I7.out).mono ?_
            rintro e w8 ⟨rfl, rfl⟩
            rw [L5n.out, hcs]
            go_wp2_with fail
            refine (acked_any _ _ _ _ I7.out).mono ?_
            rintro e w9 ⟨rfl, rfl⟩
            rw [A5.out]
            go_wp2
            go_ret
            exact ⟨rfl, B7.out⟩
end Go.Proofs.Ytpanjdncjdellaa
