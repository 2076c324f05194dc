import Derived.Test.YtpanjdncjdellaaT7
namespace Go.Proofs.Ytpanjdncjdellaa
open Go.RowKit

/-- What lies between two turns of SendWindow: a of the k are acknowledged, q were sent. -/
structure Turn (k a q : Nat) (s : St) : Prop where
  len : s.l.length = k - a
  ac : s.acked = (a : Int)
  se : s.sent = (q : Int)
  wa : s.wait = 2
  no : s.now = 0
  du : (s.due = -1 ∧ q = a) ∨ (s.due = 2 ∧ a < q)
  aq : a ≤ q
  qk : q ≤ k

theorem turn_out {k a q : Nat} {s : St} (h : Turn k a q s) (hak : a < k) {m : Nat} (hm : (m : Int) = s.top - s.sent) : q + m = max q (min k (a + 8)) ∧ s.out 0 = ⟨s.l, a, ((q + m : Nat) : Int), 2, 2, 0⟩ ∧ a < q + m := by
  obtain ⟨l1, l2, l3, l4, l5, l6, l7, l8⟩ := h
  have ht : s.top = ((q + m : Nat) : Int) := by omega
  have hq : q + m = max q (min k (a + 8)) := by
    unfold St.top at hm
    rw [l1, l2, l3] at hm
    omega
  have hlt : a < q + m := by omega
  refine ⟨hq, ?_, hlt⟩
  unfold St.out
  rw [ht, l2, l4]
  rcases l6 with ⟨d, e⟩ | ⟨d, e⟩
  · rw [if_pos ⟨d, by omega⟩]; rfl
  · rw [if_neg (by rw [d]; simp), d]

theorem turn_ack {k a b q : Nat} {l : List (List Value)} (hl : l.length = k - a) (hab : a < b) (hbq : b ≤ q) (hqk : q ≤ k) : Turn k b q (St.ack ⟨l, (a : Int), (q : Int), 2, 2, 0⟩ (b : Int)) := by
  refine ⟨?_, rfl, rfl, rfl, rfl, ?_, hbq, hqk⟩
  · simp only [St.ack, List.length_drop]; omega
  · simp only [St.ack]
    by_cases h : b < q
    · exact .inr ⟨by rw [if_pos (by omega)]; rfl, h⟩
    · exact .inl ⟨by rw [if_neg (by omega)], by omega⟩

set_option maxHeartbeats 4000000 in
set_option maxRecDepth 100000 in
theorem window_any (n step : Int) (w : World) : Calls Try.prog 4 #[.int .i64 n, .int .i64 step] w fun e w' => e = .returned (.bool true) ∧ Below w.heap.size w w' := by
  obtain ⟨k, hk, hkl⟩ := rem_nat n 61 (by omega)
  obtain ⟨dd, hd, hdl⟩ := rem_nat step 8 (by omega)
  have hu := u64_nn n
  have hus := u64_nn step
  have hw1 : IntKind.i64.wrap (k : Int) = (k : Int) := i64_id (by omega) (by omega)
  have hw2 : IntKind.i64.wrap (dd : Int) = (dd : Int) := i64_id (by omega) (by omega)
  have hw3 : IntKind.i64.wrap (1 + (dd : Int)) = 1 + (dd : Int) := i64_id (by omega) (by omega)
  go_enter Try.func4, Try.ntmps4
  go_wp2_with fail
  refine (new_any w).mono ?_
  rintro e w1 ⟨rfl, i1, b1⟩
  have I1 := Lib.hid i1
  have B1 := Lib.hid b1
  clear i1 b1
  go_wp2_with fail
  have hkl' : k ≤ 60 := by omega
  have hdl' : dd ≤ 7 := by omega
  clear hk hd hkl hdl
  go_loopg [8] 61 (fun gh s8 wr => ∃ (i : Nat) (L : List (List Value)), i ≤ k ∧ k - i ≤ gh ∧ s8 = .int .i64 i ∧ L.length = i ∧ Inv wr w.heap.size w.heap.size ⟨L, 0, 0, 2, -1, 0⟩ ∧ Below w.heap.size w wr)
  case atStart => exact ⟨0, [], by omega, by omega, rfl, rfl, I1.out, B1.out⟩
  case round =>
    obtain ⟨i, L, hi, hgh, rfl, hLl, i2, b2⟩ := hrel
    have I2 := Lib.hid i2
    have B2 := Lib.hid b2
    clear i2 b2
    by_cases hl : i < k
    · have hlt : (i : Int) < (k : Int) := by omega
      have hwi : IntKind.i64.wrap ((i : Int) + 1) = (i : Int) + 1 := i64_id (by omega) (by omega)
      go_wp2_with fail
      refine (put_ok w.heap.size w.heap.size ⟨L, 0, 0, 2, -1, 0⟩ _ 1 1 [.int .u8 ((i : Int))] _ (I2.out.below ((Below.refl _ _).alloc (Nat.le_refl _) (.cells #[.int .u8 ((i : Int))] 5))) (Rd.newE rfl (by simp) rfl rfl) (fun h => by cases h) (by simp; rfl) (by omega) (by show L.length < 1000; omega)).mono ?_
      rintro e w3 ⟨rfl, i3, b3⟩
      have b4 : Below w.heap.size w w3 := (B2.out.alloc (by have := B2.out.size; omega) _).trans b3
      clear b3
      go_wp2
      go_roundg (k - (i + 1))
      case measure => omega
      case rel => exact ⟨i + 1, L ++ [[.int .u8 ((i : Int))]], by omega, by omega, by go_num, by simp; omega, i3, b4⟩
    · have hlt : decide ((i : Int) < (k : Int)) = false := by simp; omega
      obtain rfl : i = k := by omega
      go_wp2_with fail
      clear hgh hlt hl hi I1 B1
      go_loopg [9, 10, 11, 12, 13] 61 (fun gh s9 s10 s11 _ _ wr => ∃ (a q t : Nat) (s : St), Turn i a q s ∧ a ≤ i ∧ i - a ≤ gh ∧ t ≤ a ∧ s9 = .int .i64 q ∧ s10 = .int .i64 a ∧ s11 = .int .i64 t ∧ Inv wr w.heap.size w.heap.size s ∧ Below w.heap.size w wr)
      case atStart => exact ⟨0, 0, 0, ⟨L, 0, 0, 2, -1, 0⟩, ⟨by simp; omega, rfl, rfl, rfl, rfl, .inl ⟨rfl, rfl⟩, by omega, by omega⟩, by omega, by omega, by omega, rfl, rfl, rfl, I2.out, B2.out⟩
      case round =>
        obtain ⟨a, q, t, s, hT, hai, hgh, hta, rfl, rfl, rfl, i3, b3⟩ := hrel
        clear I2 B2
        have I3 := Lib.hid i3
        have B3 := Lib.hid b3
        have T3 := Lib.hid hT
        clear i3 b3 hT
        have ht130 : (t : Int) < 130 := by omega
        have hwt : IntKind.i64.wrap ((t : Int) + 1) = (t : Int) + 1 := i64_id (by omega) (by omega)
        by_cases ha : a < i
        · have hlt : (a : Int) < (i : Int) := by omega
          go_wp2_with fail
          have hdu : s.due = -1 ∨ 0 < s.due := by rcases T3.out.du with h | h <;> omega
          have hac := T3.out.ac
          have hse := T3.out.se
          have hwa := T3.out.wa
          have hno := T3.out.no
          have haq := T3.out.aq
          have hqk := T3.out.qk
          have hlen := T3.out.len
          refine (out_fresh w.heap.size w.heap.size s 0 _ I3.out hdu (by omega) (by omega) (by omega) (by omega) (by omega) (by omega) (by omega) (by omega)).mono ?_
          rintro e w4 ⟨Al, m, cl, rfl, hm, ol, i4, g4⟩
          obtain ⟨hqm, hout, haqm⟩ := turn_out T3.out ha hm
          rw [hout] at i4
          rw [hse] at ol
          have B4 := Lib.hid (B3.out.trans (below_grown g4 (Nat.le_refl _) B3.out.size))
          have I4 := Lib.hid i4
          have OL := Lib.hid ol
          have hq1 : 0 < m → q + m ≤ a + 8 := by omega
          have hq2 : q + m ≤ i := by omega
          clear i4 g4 ol hm hout hqm I3 B3 hdu hac hse hwa hno
          go_wp2_with fail
          go_loopg [9, 13] 61 (fun gh s9 s13 wr => ∃ (j x : Nat), j ≤ m ∧ m - j ≤ gh ∧ x = q + j ∧ s9 = .int .i64 x ∧ s13 = .int .i64 j ∧ wr = w4)
          case atStart => exact ⟨0, q, by omega, by omega, rfl, rfl, rfl, rfl⟩
          case round =>
            obtain ⟨j, x, hj, hgj, hx0, rfl, rfl, rfl⟩ := hrel
            have hwj : IntKind.i64.wrap ((j : Int) + 1) = (j : Int) + 1 := i64_id (by omega) (by omega)
            have hwq : IntKind.i64.wrap ((x : Int) + 1) = (x : Int) + 1 := i64_id (by omega) (by omega)
            have hwa8 : IntKind.i64.wrap ((a : Int) + 8) = (a : Int) + 8 := i64_id (by omega) (by omega)
            by_cases hjm : j < m
            · obtain ⟨bl, off, rfl, _, hc⟩ := OL.out.rd.2 (by omega)
              have hcj : wr.cell? ⟨bl, off + j, none⟩ = some (.int .i64 ((x : Int) + 1)) := hc j _ (by
                rw [nums, List.getElem?_map, List.getElem?_range hjm]
                simp only [Option.map_some]
                rw [show (q : Int) + 1 + (j : Int) = (x : Int) + 1 by omega])
              clear hc
              have hlj : (j : Int) < (m : Int) := by omega
              have h8 : (x : Int) + 1 ≤ (a : Int) + 8 := by omega
              have hx := Lib.hid hx0
              clear hx0
              go_wp2
              go_roundg (m - (j + 1))
              case measure => omega
              case rel => exact ⟨j + 1, x + 1, by omega, by omega, by have := hx.out; omega, by go_num, by go_num, rfl⟩
            · have hlj : decide ((j : Int) < (m : Int)) = false := by simp; omega
              obtain rfl : j = m := by omega
              rw [← hx0] at I4
              obtain ⟨D, hD0⟩ : ∃ D : Nat, D = a + 1 + dd := ⟨_, rfl⟩
              have e1 : (a : Int) + (1 + (dd : Int)) = (D : Int) := by omega
              have e2 : (a : Int) + 1 + (dd : Int) = (D : Int) := by omega
              have hwd : IntKind.i64.wrap (D : Int) = (D : Int) := i64_id (by omega) (by omega)
              have hwx : IntKind.i64.wrap (x : Int) = (x : Int) := i64_id (by omega) (by omega)
              have hxi : x ≤ i := by omega
              have hax : a < x := by omega
              have hx := Lib.hid hx0
              have hD := Lib.hid hD0
              have haD : a < D := by omega
              clear hx0 hD0
              by_cases hbb : x < D
              · have hb1 : (x < D) = True := by simp [hbb]
                have hb2 : ((x : Int) < (D : Int)) = True := by simp [hbb]
                have T6 := turn_ack (l := s.l) (q := x) hlen hax (Nat.le_refl _) hxi
                clear hbb
                go_wp2_with fail
                refine (ack_ok w.heap.size w.heap.size _ _ _ I4.out (by show (0 : Int) ≤ (a : Int); omega) (by show (a : Int) < (x : Int); omega) (by show (x : Int) ≤ (x : Int); omega) (by show (x : Int) ≤ (a : Int) + (s.l.length : Int); rw [hlen]; omega) (by show (x : Int) ≤ _; omega) (by simp) (by simp)).mono ?_
                rintro e w6 ⟨rfl, i6, g6⟩
                have B6 := Lib.hid (B4.out.trans (below_grown g6 (Nat.le_refl _) B4.out.size))
                have I6 := Lib.hid i6
                clear i6 g6
                go_wp2_with fail
                refine (acked_any _ _ _ _ I6.out).mono ?_
                rintro e w7 ⟨rfl, rfl⟩
                rw [T6.ac]
                go_wp2_with fail
                refine (len_any _ _ _ _ I6.out).mono ?_
                rintro e w8 ⟨rfl, rfl⟩
                rw [T6.len]
                have hT := Lib.hid T6
                clear T6
                have hcs : ((i - x : Nat) : Int) = (i : Int) - (x : Int) := by omega
                rw [hcs]
                have hsub : IntKind.i64.wrap ((i : Int) - (x : Int)) = (i : Int) - (x : Int) := i64_id (by omega) (by omega)
                clear hcs
                go_wp2
                go_roundg (i - x)
                case measure => have := hx.out; omega
                case rel => exact ⟨x, x, t + 1, _, hT.out, by omega, by omega, by omega, by go_num, by go_num, by go_num, I6.out, B6.out⟩
              · have hb1 : (x < D) = False := by simp; omega
                have hb2 : ((x : Int) < (D : Int)) = False := by simp; omega
                have hDx : D ≤ x := by omega
                have T6 := turn_ack (l := s.l) (q := x) hlen haD hDx hxi
                clear hbb
                go_wp2_with fail
                refine (ack_ok w.heap.size w.heap.size _ _ _ I4.out (by show (0 : Int) ≤ (a : Int); omega) (by show (a : Int) < (D : Int); omega) (by show (D : Int) ≤ (x : Int); omega) (by show (D : Int) ≤ (a : Int) + (s.l.length : Int); rw [hlen]; omega) (by show (x : Int) ≤ _; omega) (by simp) (by simp)).mono ?_
                rintro e w6 ⟨rfl, i6, g6⟩
                have B6 := Lib.hid (B4.out.trans (below_grown g6 (Nat.le_refl _) B4.out.size))
                have I6 := Lib.hid i6
                clear i6 g6
                go_wp2_with fail
                refine (acked_any _ _ _ _ I6.out).mono ?_
                rintro e w7 ⟨rfl, rfl⟩
                rw [T6.ac]
                go_wp2_with fail
                refine (len_any _ _ _ _ I6.out).mono ?_
                rintro e w8 ⟨rfl, rfl⟩
                rw [T6.len]
                have hT := Lib.hid T6
                clear T6
                have hcs : ((i - D : Nat) : Int) = (i : Int) - (D : Int) := by omega
                rw [hcs]
                have hsub : IntKind.i64.wrap ((i : Int) - (D : Int)) = (i : Int) - (D : Int) := i64_id (by omega) (by omega)
                clear hcs
                go_wp2
                go_roundg (i - D)
                case measure => have := hx.out; omega
                case rel => exact ⟨D, x, t + 1, _, hT.out, by omega, by omega, by omega, by go_num, by go_num, by go_num, I6.out, B6.out⟩
        · have hlt : decide ((a : Int) < (i : Int)) = false := by simp; omega
          obtain rfl : a = i := by omega
          have hdue : s.due = -1 := by
            have := T3.out.aq
            have := T3.out.qk
            rcases T3.out.du with h | h
            · exact h.1
            · omega
          go_wp2_with fail
          refine (told_any _).mono ?_
          rintro e w4 ⟨rfl, b4⟩
          have I4 := Lib.hid (I3.out.below b4)
          have B4 := Lib.hid (below_after B3.out b4 B3.out.size)
          clear b4 I3 B3
          go_wp2_with fail
          refine (due_any _ _ _ _ I4.out).mono ?_
          rintro e w5 ⟨rfl, rfl⟩
          rw [hdue]
          go_wp2
          go_ret
          exact ⟨rfl, B4.out⟩
end Go.Proofs.Ytpanjdncjdellaa
