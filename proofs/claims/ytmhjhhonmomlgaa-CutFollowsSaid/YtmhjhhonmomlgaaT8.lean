import Derived.Test.YtmhjhhonmomlgaaT7
import Derived.Deep.DeepMust
namespace Go.Proofs.Ytmhjhhonmomlgaa
open Go.RowKit

theorem bytes_ext {a b : ByteArray} (h : a.toList = b.toList) : a = b := by
  rw [ByteArray.toList_eq, ByteArray.toList_eq] at h
  obtain ⟨⟨x⟩⟩ := a
  obtain ⟨⟨y⟩⟩ := b
  simpa using h
theorem sameE_eq {a b : Ent} (h : sameE a b = true) : a = b := by
  unfold sameE at h
  simp only [Bool.and_eq_true, beq_iff_eq] at h
  obtain ⟨⟨⟨⟨⟨⟨⟨h0, h1⟩, h2⟩, h3⟩, h4⟩, h5⟩, h6⟩, h7⟩ := h
  cases a
  cases b
  simp only at h0 h1 h2 h3 h4 h5 h6 h7
  rw [h0, h1, h2, h3, h4, h5, h6, bytes_ext h7]
theorem meet_same : ∀ xs ys : List Ent, xs.take (meet xs ys) = ys.take (meet xs ys)
  | [], ys => by simp [meet]
  | a :: l, [] => by simp [meet]
  | a :: l, b :: r => by
    unfold meet
    cases h : sameE a b with
    | true => simp [meet_same l r, sameE_eq h]
    | false => simp
theorem meet_ge (l x : List Ent) : ∀ k, k ≤ l.length → k ≤ meet (l.take k ++ x) l := by
  induction l with
  | nil => intro k hk; simp at hk; omega
  | cons a l ih =>
    intro k hk
    cases k with
    | zero => omega
    | succ k =>
      have := ih k (by simpa using hk)
      simp [meet, sameE_refl, this]

theorem keep_follow {P es : List Ent} {q : Nat} (hq : q ≤ P.length) (hm : q ≤ meet P es) : keepN P es (q : Int) = (meet P es : Int) ∧ keepC P es (q : Int) = 0 := by
  unfold keepN keepC
  constructor
  all_goals rw [if_neg (by omega), if_neg (by omega)]
theorem sameL_refl (xs : List Ent) : sameL xs xs = true := sameL_drop

set_option maxHeartbeats 4000000 in
set_option maxRecDepth 100000 in
theorem cutFollows_any (A B : Option Addr) (n c m d : Nat) (zs ys : List Int) (x y : Int) (w : World) (h : RdI w w.heap.size A n zs) (h' : RdI w w.heap.size B m ys) (hm : n ≤ 9223372036854775807) (hm' : m ≤ 9223372036854775807) :
    Calls Try.prog 5 #[.slice A n c, .slice B m d, .int .i64 x, .int .i64 y] w fun e w' => e = .returned (.bool true) ∧ Below w.heap.size w w' := by
  obtain ⟨i0, hi, hz0, hz1, hz2⟩ := info_parts ent_info
  go_enter Try.func5, Try.ntmps5
  go_wp2_with fail
  refine (rows_any A n c zs _ h hm).mono ?_
  rintro e w1 ⟨es, A1, c1, rfl, hl, hv, hG, b1⟩
  clear hv
  have H' : Hid (RdI w1 w1.heap.size B m ys) := ⟨h'.1, h'.2.after b1⟩
  clear h h'
  obtain ⟨k, hk, hkl⟩ := rem_nat x ((es.length : Int) + 1) (by omega)
  have hkl' : k ≤ es.length := by omega
  have hu := u64_nn x
  have hcap := hG.cap
  have hle := hG.le
  have NL := Lib.hid hG.nil
  have G1 := Lib.hid hG.rd
  clear hG
  unfold maxLen at hcap
  go_wp2_with fail
  refine (rows_any B m d ys _ H'.out hm').mono ?_
  rintro e w2 ⟨xs, A2, c2, rfl, hl2, hv, hG2, b2⟩
  clear hv H'
  have b2' := below_after b1 b2 b1.size
  have G2 := Lib.hid (G1.out.after b2)
  have X2 := Lib.hid hG2.rd
  have NX := Lib.hid hG2.nil
  clear G1 hG2
  obtain ⟨q, hq, hql⟩ := rem_nat y ((k : Int) + 1) (by omega)
  have hql' : q ≤ k := by omega
  have huy := u64_nn y
  have hkc : (k : Int) ≤ (c1 : Int) := by omega
  have hkc' : k ≤ c1 := by omega
  go_wp2_with (first
    | (at_builtin
       refine wpList_append_rd _ rfl (.tmp 30) (.tmp 33) 23 rfl w2.heap.size 29 i0 _ 8 72 Try.underlying23 hi hz0 hz1 hz2 rfl (by decide) (.slice (some ⟨w2.heap.size, 0, none⟩) 0 0) 0 [] rfl (Own.built w2 29 8) w2.heap.size A1 k c1 ((es.take k).flatMap Ent.enc) rfl ((G2.out.take hkl').2.below ((Below.refl _ _).alloc (Nat.le_refl _) _)) (fun h => (NL.out h).2) (enc_one _) (by simp only [maxLen]; omega) (by omega) (by simp) ?_
       intro v3 w3 hown3 hg3 hat3
       simp only [Nat.zero_add, List.nil_append] at hown3
       have b3 : Below w2.heap.size w2 w3 := ((Below.refl _ _).alloc (Nat.le_refl _) _).grown hg3 (by simp) (fun g hg => by simp [Value.ownBlock] at hg; omega))
    | (at_builtin
       refine wpList_append_rd _ rfl (.tmp 34) (.tmp 35) 23 rfl w2.heap.size 29 i0 _ 8 72 Try.underlying23 hi hz0 hz1 hz2 rfl (by decide) v3 k ((es.take k).flatMap Ent.enc) rfl hown3 w3.heap.size A2 xs.length c2 (xs.flatMap Ent.enc) rfl (X2.out.after b3).2 (fun h => (NX.out h).2) (enc_one _) (by simp only [maxLen]; omega) (by omega) b3.size ?_
       intro v4 w4 hown4 hg4 hat4
       have b4 : Below w2.heap.size w2 w4 := b3.grown hg4 b3.size (fun g hg => (hown3.block g hg).1)))
  obtain ⟨A4, c4, rfl, l4, m4, n4⟩ := hown4.form
  have hPl : (es.take k ++ xs).length = k + xs.length := by rw [List.length_append, List.length_take]; omega
  have hmk := meet_ge es xs k hkl'
  have hmm := meet_le (es.take k ++ xs) es
  rw [hPl] at hmm
  have hkf := keep_follow (P := es.take k ++ xs) (es := es) (q := q) (by omega) (by omega)
  have hsm := meet_same (es.take k ++ xs) es
  have hcl : clash (es.take k ++ xs) es = if meet (es.take k ++ xs) es < k + xs.length ∧ meet (es.take k ++ xs) es < es.length then (meet (es.take k ++ xs) es : Int) else -1 := by unfold clash; rw [hPl]
  have P4 : Hid (RdE w4 w4.heap.size A4 (k + xs.length) (es.take k ++ xs)) := RdE.of_own hPl (by rw [List.flatMap_append]; exact hown4)
  have N4 := Lib.hid n4
  have G4 := Lib.hid (G2.out.after b4)
  have b4' := below_after b2' b4 b2'.size
  clear hown4 hown3 hg3 hg4 hat3 hat4 b3 G2 X2 NX n4 hPl
  generalize hPe : es.take k ++ xs = P at *
  generalize hme : meet P es = mt at *
  have HME := Lib.hid hme
  have HSM := Lib.hid hsm
  have HCL := Lib.hid hcl
  have HKF := Lib.hid hkf
  clear hPe hme hsm hcl hkf hkl hql
  unfold maxLen at m4
  go_wp2_with fail
  refine (keep_any A4 A1 (k + xs.length) es.length c4 c1 P es q _ P4.out G4.out (by omega) (by omega)).mono ?_
  rw [HKF.out.1, HKF.out.2]
  rintro e w5 ⟨rfl, b5⟩
  have b5' := below_after b4' b5 b4'.size
  have G5 := Lib.hid (G4.out.after b5)
  have P5 := Lib.hid (P4.out.after b5)
  clear G4 P4 HKF
  have h1 : (k : Int) ≤ (mt : Int) := by omega
  have h2 : (mt : Int) ≤ (k : Int) + (xs.length : Int) := by omega
  have h3 : (mt : Int) ≤ (c4 : Int) := by omega
  go_wp2_with (at_builtin
               refine wpList_append_rd _ rfl (.tmp 65) (.tmp 68) 23 rfl w5.heap.size 29 i0 _ 8 72 Try.underlying23 hi hz0 hz1 hz2 rfl (by decide) (.slice (some ⟨w5.heap.size, 0, none⟩) 0 0) 0 [] rfl (Own.built w5 29 8) w5.heap.size A4 mt c4 ((P.take mt).flatMap Ent.enc) rfl ((P5.out.take hmm.1).2.below ((Below.refl _ _).alloc (Nat.le_refl _) _)) (fun h => (N4.out h).2) (enc_one _) (by simp only [maxLen]; omega) (by omega) (by simp) ?_
               intro v6 w6 hown6 hg6 hat6
               simp only [Nat.zero_add, List.nil_append] at hown6
               have b6 : Below w5.heap.size w5 w6 := ((Below.refl _ _).alloc (Nat.le_refl _) _).grown hg6 (by simp) (fun g hg => by simp [Value.ownBlock] at hg; omega))
  clear hg6 hat6
  have b6' := below_after b5' b6 b5'.size
  have G6 := Lib.hid (G5.out.after b6)
  have P6 := Lib.hid (P5.out.after b6)
  refine (rest_any A4 A1 (k + xs.length) es.length c4 c1 P es _ P6.out G6.out (by omega) (by omega) hle (by simpa [maxLen] using hcap) NL.out).mono ?_
  rw [HME.out]
  rintro e w7 ⟨A7, c7, rfl, g7, b7⟩
  have b7' := below_after b6' b7 b6'.size
  have G7 := Lib.hid (G6.out.after b7)
  have P7 := Lib.hid (P6.out.after b7)
  have R7 := Lib.hid g7.rd
  have N7 := Lib.hid g7.nil
  have hown7 := hown6.below b7
  clear G6 P6 g7 hown6
  have e7 : mt + (es.length - mt) = es.length := by omega
  go_wp2_with (at_builtin
               refine wpList_append_rd _ rfl (.tmp 69) (.tmp 72) 23 rfl w5.heap.size 29 i0 _ 8 72 Try.underlying23 hi hz0 hz1 hz2 rfl (by decide) v6 mt ((P.take mt).flatMap Ent.enc) rfl hown7 w7.heap.size A7 (es.length - mt) c7 ((es.drop mt).flatMap Ent.enc) rfl R7.out.2 (fun h => (N7.out h).2) (enc_one _) (by simp only [maxLen]; omega) (by omega) (Nat.le_trans b6.size b7.size) ?_
               intro v8 w8 hown8 hg8 hat8
               have b8 : Below w5.heap.size w7 w8 := (Below.refl _ _).grown hg8 (Nat.le_trans b6.size b7.size) (fun g hg => (hown7.block g hg).1)
               rw [e7] at hown8)
  have b58 : Below w5.heap.size w5 w8 := (b6.trans (b7.mono b6.size)).trans b8
  have b8' := below_after b5' b58 b5'.size
  have G8 := Lib.hid ((G5.out.below b58).more b58.size)
  have P8 := Lib.hid ((P5.out.below b58).more b58.size)
  have hnow : P.take mt ++ es.drop mt = es := by rw [HSM.out, List.take_append_drop]
  have hown9 : Own w8 w5.heap.size 29 8 v8 es.length (es.flatMap Ent.enc) := by
    have h9 := hown8
    rw [← List.flatMap_append, hnow] at h9
    exact h9
  obtain ⟨A8, c8, rfl, l8, m8, n8⟩ := hown9.form
  have W8 : Hid (RdE w8 w8.heap.size A8 es.length es) := RdE.of_own rfl hown9
  clear hown8 hown9 hown7 hg8 hat8 G5 P5 G7 P7 R7 N7 hnow b8 b58 b6 b7 n8
  refine (told_any _).mono ?_
  rintro e w9 ⟨rfl, b9⟩
  have b9' := below_after b8' b9 b8'.size
  have G9 := Lib.hid (G8.out.after b9)
  have P9 := Lib.hid (P8.out.after b9)
  have W9 := Lib.hid (W8.out.after b9)
  clear G8 P8 W8
  go_wp2_with fail
  refine (sameL_any A8 A1 es.length es.length c8 c1 es es _ W9.out G9.out (by omega) (by omega)).mono ?_
  rw [sameL_refl]
  rintro e w10 ⟨rfl, b10⟩
  have b10' := below_after b9' b10 b9'.size
  have G10 := Lib.hid (G9.out.after b10)
  have P10 := Lib.hid (P9.out.after b10)
  clear G9 P9 W9
  go_wp2_with fail
  refine (clash_any A4 A1 (k + xs.length) es.length c4 c1 P es _ P10.out G10.out (by omega) (by omega)).mono ?_
  rw [HCL.out]
  by_cases hboth : mt < k + xs.length ∧ mt < es.length
  · rw [if_pos hboth]
    rintro e w11 ⟨rfl, b11⟩
    have b11' := below_after b10' b11 b10'.size
    have e1 : ((mt : Int) == (k : Int) + (xs.length : Int)) = false := by simp; omega
    have e2 : ((mt : Int) == (es.length : Int)) = false := by simp; omega
    have e3 : ¬ ((mt : Int) < 0) := by omega
    go_wp2
    go_ret
    exact ⟨rfl, b11'⟩
  · rw [if_neg hboth]
    rintro e w11 ⟨rfl, b11⟩
    have b11' := below_after b10' b11 b10'.size
    by_cases hq1 : mt = k + xs.length
    · have e1 : ((mt : Int) == (k : Int) + (xs.length : Int)) = true := by simp; omega
      clear hq1 hboth
      go_wp2
      go_ret
      exact ⟨rfl, b11'⟩
    · have e1 : ((mt : Int) == (k : Int) + (xs.length : Int)) = false := by simp; omega
      have e2 : ((mt : Int) == (es.length : Int)) = true := by simp; omega
      clear hq1 hboth e7
      go_wp2
      go_ret
      exact ⟨rfl, b11'⟩
end Go.Proofs.Ytmhjhhonmomlgaa
