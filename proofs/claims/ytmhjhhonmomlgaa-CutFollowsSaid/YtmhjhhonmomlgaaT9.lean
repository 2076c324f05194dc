import Derived.Test.YtmhjhhonmomlgaaT8
namespace Go.Proofs.Ytmhjhhonmomlgaa
open Go.RowKit

/-- A store into a slice of the call's own. -/
theorem Own.store {w : World} {base e k n g off cap : Nat} {xs : List Value} (h : Own w base e k (.slice (some ⟨g, off, none⟩) n cap) n xs) (j : Nat) (hj : j < n * k) (u : Value) :
    Own (w.setCell ⟨g, off + j, none⟩ u) base e k (.slice (some ⟨g, off, none⟩) n cap) n (xs.set j u) ∧ (∃ u0, w.cell? ⟨g, off + j, none⟩ = some u0) ∧ w.frozen? ⟨g, off + j, none⟩ = false ∧ base ≤ g := by
  rcases h.2 with ⟨h0, _⟩ | ⟨g', off', cap', cur, hv, hb, hh, hn, hcm, hs, ht⟩
  · cases h0
  · injection hv with hA _ hcap
    injection hA with hA
    injection hA with hg ho
    subst hg ho hcap
    have hnk : n * k ≤ cap * k := Nat.mul_le_mul_right _ hn
    refine ⟨⟨by rw [List.length_set]; exact h.1, .inr ⟨g, off, cap, _, rfl, hb, heap_setCell_same w g (off + j) cur e u hh, hn, hcm, by simpa using hs, ?_⟩⟩, ?_, frozen_of_row w g _ cur e hh, hb⟩
    · rw [Array.toList_setIfInBounds, List.drop_set, if_neg (by omega), Nat.add_sub_cancel_left, List.take_set, ht]
    · rw [cell_of_row w g (off + j) cur e (0, 0) hh]
      exact ⟨_, Array.getElem?_eq_getElem (by omega)⟩

theorem flat_view (es : List Ent) : ∀ (k : Nat) (e : Ent) (v : Int), es[k]? = some e → (es.flatMap Ent.enc).set (k * 8 + 1) (.int .i64 v) = (es.set k { e with view := v }).flatMap Ent.enc := by
  induction es with
  | nil => intro k e v h; simp at h
  | cons a l ih =>
    intro k e v h
    cases k with
    | zero =>
      simp at h
      subst h
      rfl
    | succ k =>
      have h' : l[k]? = some e := by simpa using h
      rw [List.flatMap_cons, List.set_append_right _ _ (by rw [Ent.enc_len]; omega), Ent.enc_len, show (k + 1) * 8 + 1 - 8 = k * 8 + 1 by omega, ih k e v h', List.set_cons_succ, List.flatMap_cons]

theorem meet_set (es : List Ent) : ∀ (k : Nat) (e e' : Ent), es[k]? = some e → sameE e e' = false → meet es (es.set k e') = k := by
  induction es with
  | nil => intro k e e' h; simp at h
  | cons a l ih =>
    intro k e e' h hne
    cases k with
    | zero => simp at h; subst h; simp [meet, hne]
    | succ k => simp [meet, sameE_refl, ih k e e' (by simpa using h) hne]

set_option maxHeartbeats 4000000 in
set_option maxRecDepth 100000 in
theorem cutSafe_any (A : Option Addr) (n c : Nat) (zs : List Int) (x y : Int) (w : World) (h : RdI w w.heap.size A n zs) (hm : n ≤ 9223372036854775807) :
    Calls Try.prog 3 #[.slice A n c, .int .i64 x, .int .i64 y] w fun e w' => e = .returned (.bool true) ∧ Below w.heap.size w w' := by
  obtain ⟨i0, hi, hz0, hz1, hz2⟩ := info_parts ent_info
  go_enter Try.func3, Try.ntmps3
  go_wp2_with fail
  refine (rows_any A n c zs _ h hm).mono ?_
  rintro e w1 ⟨es, A1, c1, rfl, hl, hv, hG, b1⟩
  by_cases h0 : es.length = 0
  · have e0 : ((es.length : Int) == 0) = true := by simp [h0]
    clear h0 hv hG
    go_wp2_with fail
    refine (told_any _).mono ?_
    rintro e w2 ⟨rfl, b2⟩
    go_wp2
    go_ret
    exact ⟨rfl, below_after b1 b2 b1.size⟩
  have e0 : ((es.length : Int) == 0) = false := by rw [beq_eq_false_iff_ne]; omega
  obtain ⟨k, hk, hkl⟩ := rem_nat x (es.length : Int) (by omega)
  have hkl' : k < es.length := by omega
  have hu := u64_nn x
  have huy := u64_nn y
  obtain ⟨q, hq, hql⟩ := rem_nat y ((es.length : Int) + 1) (by omega)
  have hql' : q ≤ es.length := by omega
  have hcap := hG.cap
  have hle := hG.le
  unfold maxLen at hcap
  have NL := Lib.hid hG.nil
  have G1 := Lib.hid hG.rd
  have HV := Lib.hid hv
  clear hG hv
  go_wp2_with (at_builtin
               refine wpList_append_rd _ rfl (.tmp 26) (.tmp 27) 23 rfl w1.heap.size 29 i0 _ 8 72 Try.underlying23 hi hz0 hz1 hz2 rfl (by decide) (.slice (some ⟨w1.heap.size, 0, none⟩) 0 0) 0 [] rfl (Own.built w1 29 8) w1.heap.size A1 es.length c1 (es.flatMap Ent.enc) rfl (G1.out.2.below ((Below.refl _ _).alloc (Nat.le_refl _) _)) (fun h => (NL.out h).2) (enc_one _) (by simp only [maxLen]; omega) (by omega) (by simp) ?_
               intro v2 w2 hown2 hg2 hat2
               simp only [Nat.zero_add, List.nil_append] at hown2
               have b2 : Below w1.heap.size w1 w2 := ((Below.refl _ _).alloc (Nat.le_refl _) _).grown hg2 (by simp) (fun g hg => by simp [Value.ownBlock] at hg; omega)
               obtain ⟨A2, c2, rfl, l2, m2, n2⟩ := hown2.form
               obtain ⟨b, o, hA2, hbb, hcc⟩ := hown2.rd.2 (by omega)
               subst hA2
               have hx : es[k]? = some (es[k]) := List.getElem?_eq_getElem hkl'
               obtain ⟨ee, hee⟩ : ∃ ee, ee = es[k] := ⟨_, rfl⟩
               rw [← hee] at hx
               have hvw := HV.out ee (by rw [hee]; exact List.getElem_mem hkl')
               clear hee
               have hcv : w2.cell? ⟨b, o + (k * 8 + 1), none⟩ = some (.int .i64 ee.view) := hcc _ _ (flat_get Ent.enc 8 Ent.enc_len es k ee hx 1 _ rfl)
               have hst := hown2.store (k * 8 + 1) (by omega) (.int .i64 (ee.view + 1000000))
               have hfz := hst.2.2.1
               have hbge := hst.2.2.2
               have HST := Lib.hid hst.1
               have HX := Lib.hid hx
               have HCC := Lib.hid hown2
               rw [← Nat.add_assoc] at hcv hfz
               clear hown2 hg2 hat2 hcc hst hx n2)
  have bs : Below w1.heap.size w1 (w2.setCell ⟨b, o + k * 8 + 1, none⟩ (.int .i64 (ee.view + 1000000))) := b2.setCell hbge _
  have bs' := below_after b1 bs b1.size
  rw [← Nat.add_assoc] at HST
  have hes : (es.set k { ee with view := ee.view + 1000000 }).length = es.length := List.length_set
  have M3 : Hid (RdE (w2.setCell ⟨b, o + k * 8 + 1, none⟩ (.int .i64 (ee.view + 1000000))) (w2.setCell ⟨b, o + k * 8 + 1, none⟩ (.int .i64 (ee.view + 1000000))).heap.size (some ⟨b, o, none⟩) es.length (es.set k { ee with view := ee.view + 1000000 })) := by
    have h3 := HST.out
    rw [flat_view es k ee (ee.view + 1000000) HX.out] at h3
    exact RdE.of_own hes h3
  have G3 := Lib.hid (G1.out.after bs)
  have hme := meet_set es k ee { ee with view := ee.view + 1000000 } HX.out (by simp [sameE]; omega)
  have HE := Lib.hid hes
  have HME := Lib.hid hme
  clear HST HCC G1 hfz hcv hes hme b2 bs
  generalize hw3 : w2.setCell ⟨b, o + k * 8 + 1, none⟩ (.int .i64 (ee.view + 1000000)) = w3 at *
  clear hw3
  generalize hM : es.set k { ee with view := ee.view + 1000000 } = M at *
  clear hM
  have hkn : keepN es M (q : Int) = (if (k : Int) < (q : Int) then 0 else (k : Int)) ∧ keepC es M (q : Int) = (if (k : Int) < (q : Int) then 10 else 0) := by
    unfold keepN keepC
    rw [HME.out]
    constructor
    all_goals rw [if_neg (by omega)]
  have hcl : clash es M = (k : Int) := by unfold clash; rw [HME.out, HE.out, if_pos ⟨hkl', hkl'⟩]
  have HKN := Lib.hid hkn
  have HCL := Lib.hid hcl
  clear hkn hcl
  unfold maxLen at m2
  refine (keep_any A1 _ es.length es.length c1 c2 es M q _ G3.out M3.out (by omega) (by omega)).mono ?_
  rw [HKN.out.1, HKN.out.2]
  by_cases hkq : (k : Int) < (q : Int)
  · rw [if_pos hkq, if_pos hkq]
    rintro e w4 ⟨rfl, b4⟩
    have b4' := below_after bs' b4 bs'.size
    go_wp2_with fail
    refine (told_any _).mono ?_
    rintro e w5 ⟨rfl, b5⟩
    have b5' := below_after b4' b5 b4'.size
    go_wp2
    go_ret
    exact ⟨rfl, b5'⟩
  · rw [if_neg hkq, if_neg hkq]
    rintro e w4 ⟨rfl, b4⟩
    have b4' := below_after bs' b4 bs'.size
    have G4 := Lib.hid (G3.out.after b4)
    have M4 := Lib.hid (M3.out.after b4)
    clear G3 M3
    go_wp2_with fail
    refine (told_any _).mono ?_
    rintro e w5 ⟨rfl, b5⟩
    have b5' := below_after b4' b5 b4'.size
    have G5 := Lib.hid (G4.out.after b5)
    have M5 := Lib.hid (M4.out.after b5)
    clear G4 M4
    go_wp2_with fail
    refine (clash_any A1 _ es.length es.length c1 c2 es M _ G5.out M5.out (by omega) (by omega)).mono ?_
    rw [HCL.out]
    rintro e w6 ⟨rfl, b6⟩
    have b6' := below_after b5' b6 b5'.size
    have G6 := Lib.hid (G5.out.after b6)
    have M6 := Lib.hid (M5.out.after b6)
    clear G5 M5
    go_wp2_with fail
    refine (rest_any A1 _ es.length es.length c1 c2 es M _ G6.out M6.out (by omega) (by omega) l2 (by simpa [maxLen] using m2) (fun h => by cases h)).mono ?_
    rw [HME.out]
    rintro e w7 ⟨A7, c7, rfl, g7, b7⟩
    have b7' := below_after b6' b7 b6'.size
    clear g7
    have hsub : ((es.length - k : Nat) : Int) = (es.length : Int) - (k : Int) := by omega
    go_wp2
    go_ret
    exact ⟨by simp, b7'⟩
end Go.Proofs.Ytmhjhhonmomlgaa
