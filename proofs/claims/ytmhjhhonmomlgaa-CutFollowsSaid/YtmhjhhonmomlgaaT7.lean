import Derived.Test.YtmhjhhonmomlgaaT5
import Derived.Test.YtmhjhhonmomlgaaT6
namespace Go.Proofs.Ytmhjhhonmomlgaa
open Go.RowKit

theorem meet_take_l (es : List Ent) : ∀ k, k ≤ es.length → meet (es.take k) es = k := by
  induction es with
  | nil => intro k hk; simp at hk; subst hk; rfl
  | cons a l ih =>
    intro k hk
    cases k with
    | zero => simp [meet]
    | succ k => simp [meet, sameE_refl, ih k (by simpa using hk)]
theorem meet_take_r (es : List Ent) : ∀ k, k ≤ es.length → meet es (es.take k) = k := by
  induction es with
  | nil => intro k hk; simp at hk; subst hk; rfl
  | cons a l ih =>
    intro k hk
    cases k with
    | zero => simp [meet]
    | succ k => simp [meet, sameE_refl, ih k (by simpa using hk)]

/-- uint(x) % uint(m), m not 0: a number below m. -/
theorem rem_nat (x : Int) (m : Int) (hm : 0 < m) : ∃ k : Nat, IntKind.u64.wrap x % m = (k : Int) ∧ (k : Int) < m := by
  obtain ⟨k, hk⟩ := Int.eq_ofNat_of_zero_le (Int.emod_nonneg (IntKind.u64.wrap x) (show m ≠ 0 by omega))
  have := Int.emod_lt_of_pos (IntKind.u64.wrap x) hm
  exact ⟨k, hk, by omega⟩

theorem ret2_lit {a b c d : Int} (h : a = c) (k : b = d) : (Value.tuple #[.int .i64 a, .int .i64 b]) = .tuple #[.int .i64 c, .int .i64 d] := by rw [h, k]

theorem keep_pre {es : List Ent} {k : Nat} (hk : k ≤ es.length) : keepN (es.take k) es (k : Int) = (k : Int) ∧ keepC (es.take k) es (k : Int) = 0 := by
  unfold keepN keepC
  rw [meet_take_l es k hk, List.length_take, Nat.min_eq_left hk]
  constructor
  all_goals rw [if_neg (by omega), if_neg (by omega)]
theorem keep_suf {es : List Ent} {k : Nat} (hk : k ≤ es.length) : keepN es (es.take k) (k : Int) = (k : Int) ∧ keepC es (es.take k) (k : Int) = 0 := by
  unfold keepN keepC
  rw [meet_take_r es k hk]
  constructor
  all_goals rw [if_neg (by omega), if_neg (by omega)]
theorem clash_pre {es : List Ent} {k : Nat} (hk : k ≤ es.length) : clash (es.take k) es = -1 := by
  unfold clash
  rw [meet_take_l es k hk, List.length_take, Nat.min_eq_left hk, if_neg (by omega)]
theorem clash_suf {es : List Ent} {k : Nat} (hk : k ≤ es.length) : clash es (es.take k) = -1 := by
  unfold clash
  rw [meet_take_r es k hk, List.length_take, Nat.min_eq_left hk, if_neg (by omega)]

set_option maxHeartbeats 2000000 in
set_option maxRecDepth 100000 in
theorem cutNone_any (A : Option Addr) (n c : Nat) (zs : List Int) (x : Int) (w : World) (h : RdI w w.heap.size A n zs) (hm : n ≤ 9223372036854775807) :
    Calls Try.prog 6 #[.slice A n c, .int .i64 x] w fun e w' => e = .returned (.bool true) ∧ Below w.heap.size w w' := by
  go_enter Try.func6, Try.ntmps6
  go_wp2_with fail
  refine (rows_any A n c zs _ h hm).mono ?_
  rintro e w1 ⟨es, A1, c1, rfl, hl, hv, hG, b1⟩
  clear hv
  obtain ⟨k, hk, hkl⟩ := rem_nat x ((es.length : Int) + 1) (by omega)
  have hkl' : k ≤ es.length := by omega
  have hcap := hG.cap
  have hle := hG.le
  unfold maxLen at hcap
  have hu := u64_nn x
  have ml1 := meet_take_l es k hkl'
  have hkl2 : (k : Int) ≤ (es.length : Int) := by omega
  have hkc : (k : Int) ≤ (c1 : Int) := by omega
  clear hkl
  have kt : (es.take k).length = k := by rw [List.length_take]; omega
  have KT := Lib.hid kt
  have ML := Lib.hid ml1
  clear kt ml1
  have HP := Lib.hid (keep_pre hkl')
  have HS := Lib.hid (keep_suf hkl')
  have C1 := Lib.hid (clash_pre hkl')
  have C2 := Lib.hid (clash_suf hkl')
  have g1 := hG.rd
  have G1 := Lib.hid g1
  have NL := Lib.hid hG.nil
  clear g1
  go_wp2_with fail
  refine (keep_any A1 A1 k es.length c1 c1 (es.take k) es k _ (G1.out.take hkl') G1.out (by omega) (by omega)).mono ?_
  rw [HP.out.1, HP.out.2]
  rintro e w2 ⟨rfl, b2⟩
  have b2' := below_after b1 b2 b1.size
  have G2 := Lib.hid (G1.out.after b2)
  clear G1
  go_wp2_with fail
  refine (keep_any A1 A1 es.length k c1 c1 es (es.take k) k _ G2.out (G2.out.take hkl') (by omega) (by omega)).mono ?_
  rw [HS.out.1, HS.out.2]
  rintro e w3 ⟨rfl, b3⟩
  have b3' := below_after b2' b3 b2'.size
  have G3 := Lib.hid (G2.out.after b3)
  clear G2
  go_wp2_with fail
  refine (rest_any A1 A1 k es.length c1 c1 (es.take k) es _ (G3.out.take hkl') G3.out (by omega) (by omega) hle (by simpa [maxLen] using hcap) NL.out).mono ?_
  rw [ML.out]
  rintro e w4 ⟨A4, c4, rfl, q4, b4⟩
  have b4' := below_after b3' b4 b3'.size
  have G4 := Lib.hid (G3.out.after b4)
  clear G3 q4
  go_wp2_with fail
  refine (rest_any A1 A1 es.length es.length c1 c1 es es _ G4.out G4.out (by omega) (by omega) hle (by simpa [maxLen] using hcap) NL.out).mono ?_
  rw [show meet es es = es.length by have := meet_take_l es es.length (Nat.le_refl _); rwa [List.take_length] at this]
  rintro e w5 ⟨A5, c5, rfl, q5, b5⟩
  have b5' := below_after b4' b5 b4'.size
  have G5 := Lib.hid (G4.out.after b5)
  clear G4 q5
  go_wp2_with fail
  refine (told_any _).mono ?_
  rintro e w6 ⟨rfl, b6⟩
  have b6' := below_after b5' b6 b5'.size
  have G6 := Lib.hid (G5.out.after b6)
  clear G5
  have hsub : (es.length : Int) - (k : Int) = ((es.length - k : Nat) : Int) := by omega
  go_wp2_with fail
  refine (clash_any A1 A1 k es.length c1 c1 (es.take k) es _ (G6.out.take hkl') G6.out (by omega) (by omega)).mono ?_
  rw [C1.out]
  rintro e w7 ⟨rfl, b7⟩
  have b7' := below_after b6' b7 b6'.size
  have G7 := Lib.hid (G6.out.after b7)
  clear G6
  go_wp2_with fail
  refine (clash_any A1 A1 es.length k c1 c1 es (es.take k) _ G7.out (G7.out.take hkl') (by omega) (by omega)).mono ?_
  rw [C2.out]
  rintro e w8 ⟨rfl, b8⟩
  have b8' := below_after b7' b8 b7'.size
  go_wp2
  go_ret
  exact ⟨rfl, b8'⟩
end Go.Proofs.Ytmhjhhonmomlgaa
