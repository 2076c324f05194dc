import Derived.Test.YtpanjdncjdellaaT2
namespace Go.Proofs.Ytpanjdncjdellaa
open Go.RowKit

def St.ack (s : St) (q : Int) : St := ⟨s.l.drop (q - s.acked).toNat, q, s.sent, 2, if q < s.sent then s.now + 2 else -1, s.now⟩

theorem i64_id {n : Int} (h1 : -9223372036854775808 ≤ n) (h2 : n ≤ 9223372036854775807) : IntKind.i64.wrap n = n := by
  simp [IntKind.wrap, IntKind.bits, IntKind.signed]; omega
theorem grown_of_drew {w w' : World} {o : Option Nat} (h : w.grownBy w' o) : w.grownBy w'.drew o := ⟨h.os, h.tape, h.output, h.size, h.block⟩
theorem grown_of_drewN {w w' : World} {o : Option Nat} (h : w.grownBy w' o) (n : Nat) : w.grownBy (w'.drewN n) o := ⟨h.os, h.tape, h.output, h.size, h.block⟩
theorem ack_range (B g : Nat) (s : St) (q : Int) (w : World) (h : Inv w B g s) (h0 : 0 ≤ q) (hq : s.sent < q) : Calls Try.prog 9 #[.pointer (some ⟨g, 0, none⟩), .int .i64 q] w fun e w' => e = .returned (.int .i64 5) ∧ w' = w := by
  obtain ⟨A, c, _, _, _, _, c0, c1, c2, c3, c4, c5, fz⟩ := h.open_
  go_enter Try.func9, Try.ntmps9
  go_wp2
  go_ret
  exact ⟨rfl, rfl⟩
theorem ack_old (B g : Nat) (s : St) (q : Int) (w : World) (h : Inv w B g s) (h0 : 0 ≤ q) (hq : q ≤ s.sent) (ha : q ≤ s.acked) : Calls Try.prog 9 #[.pointer (some ⟨g, 0, none⟩), .int .i64 q] w fun e w' => e = .returned (.int .i64 0) ∧ w' = w := by
  obtain ⟨A, c, _, _, _, _, c0, c1, c2, c3, c4, c5, fz⟩ := h.open_
  go_enter Try.func9, Try.ntmps9
  go_wp2
  go_ret
  exact ⟨rfl, rfl⟩

theorem Hold.drop {w : World} {B g1 off c : Nat} {l : List (List Value)} (h : Hold w B (.slice (some ⟨g1, off, none⟩) l.length c) l) {k : Nat} (hk : k ≤ l.length) (hc : l.length ≤ c) : Hold w B (.slice (some ⟨g1, off + k, none⟩) (l.length - k) (c - k)) (l.drop k) := by
  obtain ⟨ls, ho, hb⟩ := h
  have hl : ls.length = l.length := by have := ho.1; omega
  have h1 := ho.cut (i := k) (m := l.length - k) (c := c - k) (by omega) (by omega) (by omega)
  refine ⟨ls.drop k, ?_, fun i b hi => ?_⟩
  · rw [List.length_drop]
    have e : (List.drop (k * 1) ls).take ((l.length - k) * 1) = ls.drop k := by
      rw [Nat.mul_one, Nat.mul_one]
      exact List.take_of_length_le (by rw [List.length_drop]; omega)
    rw [e, Nat.mul_one] at h1
    exact h1
  · rw [List.getElem?_drop] at hi ⊢
    exact hb _ b hi

theorem Hold.drop0 {w : World} {B g1 off c k : Nat} {l : List (List Value)} (h : Hold w B (.slice (some ⟨g1, off, none⟩) l.length c) l) (hk : k ≤ l.length) (hc : l.length ≤ k) : Hold w B (.slice (some ⟨g1, off, none⟩) (l.length - k) 0) (l.drop k) := by
  obtain ⟨ls, ho, hb⟩ := h
  have hl : ls.length = l.length := by have := ho.1; omega
  have h1 := ho.cut (i := 0) (m := 0) (c := 0) (by omega) (by omega) (by omega)
  obtain rfl : k = l.length := by omega
  refine ⟨[], by simpa using h1, fun i b hi => ?_⟩
  simp at hi

set_option maxHeartbeats 2000000 in
set_option maxRecDepth 100000 in
theorem ack_ok (B g : Nat) (s : St) (q : Int) (w : World) (h : Inv w B g s) (h0 : 0 ≤ s.acked) (ha : s.acked < q) (hq : q ≤ s.sent) (hl : q ≤ s.acked + s.l.length) (hs : s.sent ≤ 1000000000) (hn : 0 ≤ s.now) (hn2 : s.now ≤ 1000000000) :
    Calls Try.prog 9 #[.pointer (some ⟨g, 0, none⟩), .int .i64 q] w fun e w' => e = .returned (.int .i64 0) ∧ Inv w' B g (s.ack q) ∧ w.grownBy w' (some g) := by
  have hlt := h.lt
  have hge := h.ge
  obtain ⟨Al, cl, hold, hc1, hc2, hblk, c0, c1, c2, c3, c4, c5, fz⟩ := h.open_
  obtain ⟨k, hk⟩ : ∃ k : Nat, q - s.acked = (k : Int) := ⟨(q - s.acked).toNat, by omega⟩
  have hkn : (q - s.acked).toNat = k := by omega
  have hkl : k ≤ s.l.length := by omega
  have hk0 : 0 < k := by omega
  obtain ⟨g1, off, rfl⟩ : ∃ g1 off, Al = some ⟨g1, off, none⟩ := by
    obtain ⟨ls, ho, _⟩ := hold
    rcases ho.2 with ⟨_, h0⟩ | ⟨g1, off, cap, cur, hv, _⟩
    · omega
    · injection hv with hv _ _
      exact ⟨g1, off, hv⟩
  have hwr : IntKind.i64.wrap (k : Int) = (k : Int) := i64_id (by omega) (by omega)
  have hle := h.le
  have hki : (k : Int) ≤ (s.l.length : Int) := by omega
  have hkt : (k : Int).toNat = k := by omega
  have HD := Lib.hid (hold.drop hkl hc1)
  have HD0 : Hid (cl = k → Hold w B (.slice (some ⟨g1, off, none⟩) (s.l.length - k) (cl - k)) (s.l.drop k)) := Lib.hid fun hck => by
    rw [show cl - k = 0 by omega]
    exact hold.drop0 hkl (by omega)
  have H := Lib.hid h
  have F0 := fz 0
  have hck : (cl = k) = True ∨ (cl = k) = False := by by_cases h : cl = k <;> simp [h]
  clear h hold hblk
  go_enter Try.func9, Try.ntmps9
  go_wp2_with fail
  rcases hck with hck | hck
  all_goals
    go_still_tail 14, (by kernel_rfl)
    change wpList _ _ _ _ _ w.drew
    go_wp2_with fail
  all_goals
    generalize hw4 : World.drew (World.setCell _ _ _) = w4
    have I4 : Inv w4 B g ⟨s.l.drop k, q, s.sent, 2, -1, s.now⟩ := by
      rw [← hw4]
      first
        | exact ((((H.out.list_ _ (s.l.drop k) HD.out (by rw [List.length_drop]; omega)).acked_ q).wait_ 2).due_ (-1)).drew
        | exact ((((H.out.list_ _ (s.l.drop k) (HD0.out (of_eq_true hck)) (by rw [List.length_drop]; omega)).acked_ q).wait_ 2).due_ (-1)).drew
    have G4 : w.grownBy w4 (some g) := by
      rw [← hw4]
      exact grown_of_drew (grown_set (grown_set (grown_set (grown_set (grown_refl w _) 0 _) 1 _) 3 _) 4 _)
    clear hw4 c0 c1 c2 c3 c4 c5 fz F0 H HD HD0
    obtain ⟨A4, cl4, _, _, _, _, c0, c1, c2, c3, c4, c5, fz⟩ := I4.open_
    have F4 := fz 4
    have I := Lib.hid I4
    have G := Lib.hid G4
    clear fz I4 G4
    by_cases hqs : q < s.sent
    · have hd : decide (q < s.sent) = true := by simpa using hqs
      have hsum : IntKind.i64.wrap (s.now + 2) = s.now + 2 := i64_id (by omega) (by omega)
      go_quiet (fail)
      have I5 := Lib.hid (I.out.drewN nq)
      have G5 := Lib.hid (grown_of_drewN G.out nq)
      clear I G c0 c1 c2 c3 c4 c5 F4
      generalize w4.drewN nq = w5 at I5 G5 ⊢
      obtain ⟨A5, cl5, _, _, _, _, c0, c1, c2, c3, c4, c5, fz⟩ := I5.out.open_
      have F4 := fz 4
      clear fz
      go_wp2_with fail
      go_still_tail 12, (by kernel_rfl)
      change wpList _ _ _ _ _ w5.drew
      go_wp2
      go_ret
      refine ⟨rfl, ?_, grown_of_drew (grown_set G5.out 4 _)⟩
      have := (I5.out.due_ (s.now + 2)).drew
      simp only [St.ack, hkn, if_pos hqs]
      exact this
    · have hd : decide (q < s.sent) = false := by simpa using hqs
      go_quiet (fail)
      go_wp2
      go_ret
      refine ⟨rfl, ?_, grown_of_drewN G.out _⟩
      have := I.out.drewN nq
      simp only [St.ack, hkn, if_neg (Int.not_lt.2 hqs)]
      exact this
end Go.Proofs.Ytpanjdncjdellaa
