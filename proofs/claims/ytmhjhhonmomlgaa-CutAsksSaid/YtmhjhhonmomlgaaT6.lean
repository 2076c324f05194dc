import Derived.Test.YtmhjhhonmomlgaaT4
namespace Go.Proofs.Ytmhjhhonmomlgaa
open Go.RowKit

/-- Few: at most 60 entries, of texts of at most 400 bytes. -/
def fewB (es : List Ent) : Bool := es.all (fun e => decide (e.text.size ≤ 400)) && decide (es.length ≤ 60)

theorem few_no {es : List Ent} {k : Nat} {e : Ent} (h : es[k]? = some e) (ht : 400 < e.text.size) : fewB es = false := by
  unfold fewB
  have : es.all (fun e => decide (e.text.size ≤ 400)) = false := by
    rw [List.all_eq_false]
    exact ⟨e, List.mem_of_getElem? h, by simp; omega⟩
  rw [this]
  rfl
theorem few_end {es : List Ent} {k : Nat} (h : Hid (∀ j e, j < k → es[j]? = some e → e.text.size ≤ 400)) (hk : es.length ≤ k) : fewB es = decide (es.length ≤ 60) := by
  unfold fewB
  have : es.all (fun e => decide (e.text.size ≤ 400)) = true := by
    rw [List.all_eq_true]
    intro e he
    obtain ⟨j, hj⟩ := List.mem_iff_getElem?.1 he
    have := h.out j e (by have := (List.getElem?_eq_some_iff.1 hj).1; omega) hj
    simpa using this
  rw [this]
  simp

set_option maxHeartbeats 1000000 in
theorem few_any (A : Option Addr) (n c : Nat) (es : List Ent) (w : World) (h : RdE w w.heap.size A n es) (m : n ≤ 9223372036854775807) :
    Calls Try.prog 12 #[.slice A n c] w fun e w' => e = .returned (.bool (fewB es)) ∧ w = w' := by
  have L := Lib.hid h.1
  have H := Lib.hid h
  clear h
  go_enter Try.func12, Try.ntmps12
  go_wp2
  go_loop [3] (fun v => ∃ k : Nat, k ≤ n ∧ v = .int .i64 k ∧ Hid (∀ j e, j < k → es[j]? = some e → e.text.size ≤ 400)) (fun v => n - (intOf v).toNat)
  case atStart => exact ⟨0, by omega, rfl, fun j e hj => absurd hj (Nat.not_lt_zero _)⟩
  case round =>
    obtain ⟨k, hk, rfl, HA⟩ := hrel
    by_cases hl : k < n
    · obtain ⟨b, o, x, rfl, hb, hx, r⟩ := H.out.at_ k hl
      have hc := r.c7
      have HX := Lib.hid hx
      have hlt : (k : Int) < (n : Int) := by omega
      clear r hx
      by_cases ht : 400 < x.text.size
      · have ht' : (400 : Int) < (x.text.size : Int) := by omega
        go_wp2
        go_ret
        exact ⟨ret_bool (few_no HX.out ht).symm, rfl⟩
      · have ht' : (x.text.size : Int) ≤ 400 := by omega
        go_wp2
        go_round
        case rel => exact ⟨k + 1, by omega, by go_num, fun j e hj he => by
          by_cases e0 : j = k
          · subst e0; rw [HX.out] at he; cases he; omega
          · exact HA.out j e (by omega) he⟩
        case measure => simp [intOf]; omega
    · have d1 : decide (k < n) = false := by simp; omega
      have d2 : n ≤ k := by omega
      by_cases h60 : n ≤ 60
      · have h60' : (n : Int) ≤ 60 := by omega
        go_wp2
        go_ret
        exact ⟨ret_bool (by rw [few_end HA (by have := L.out; omega)]; simp; have := L.out; omega), rfl⟩
      · have h60' : (60 : Int) < (n : Int) := by omega
        go_wp2
        go_ret
        exact ⟨ret_bool (by rw [few_end HA (by have := L.out; omega)]; simp; have := L.out; omega), rfl⟩

theorem sameL_drop {xs : List Ent} : sameL xs xs = true := by
  have : ∀ l : List Ent, meet l l = l.length := by
    intro l
    induction l with
    | nil => rfl
    | cons a l ih => simp [meet, sameE_refl, ih]
  simp [sameL, this]

theorem RdE.drop_ {w : World} {B n : Nat} {A : Option Addr} {es : List Ent} (h : RdE w B A n es) {k : Nat} (hk : k ≤ n) : RdE w B (A.map (fun x => x.add (k * 8))) (n - k) (es.drop k) := by
  cases A with
  | some a => exact h.drop hk
  | none =>
    have h0 : n = 0 := by
      rcases Nat.eq_zero_or_pos n with h0 | h0
      · exact h0
      · obtain ⟨_, _, e, _⟩ := h.2.2 h0; cases e
    subst h0
    obtain rfl : es = [] := List.eq_nil_of_length_eq_zero h.1
    simpa using RdE.empty w B none

set_option maxHeartbeats 2000000 in
set_option maxRecDepth 100000 in
theorem cutAsks_any (A1 A2 : Option Addr) (n1 n2 c1 c2 : Nat) (xs ys : List Ent) (c : Int) (w : World) (h1 : RdE w w.heap.size A1 n1 xs) (h2 : RdE w w.heap.size A2 n2 ys)
    (k1 : n1 ≤ c1) (k2 : n2 ≤ c2) (m1 : c1 ≤ maxLen) (m2 : c2 ≤ maxLen) (o1 : A1 = none → n1 = 0 ∧ c1 = 0) (o2 : A2 = none → n2 = 0 ∧ c2 = 0) :
    Calls Try.prog 4 #[.slice A1 n1 c1, .slice A2 n2 c2, .int .i64 c] w fun e w' => e = .returned (.bool true) ∧ Below w.heap.size w w' := by
  have L1 := Lib.hid h1.1
  have L2 := Lib.hid h2.1
  have H1 := Lib.hid h1
  have H2 := Lib.hid h2
  have M2 := Lib.hid m2
  have O2 := Lib.hid o2
  clear h1 h2 o1 o2
  unfold maxLen at m1 m2
  cases f1 : fewB xs with
  | false =>
    have hf1 := fun w h => few_any A1 n1 c1 xs w h (by omega)
    rw [f1] at hf1
    have HF1 := Lib.hid hf1
    clear hf1
    go_enter Try.func4, Try.ntmps4
    go_wp2_with (first | (go_at_call 12; refine (HF1.out _ H1.out).mono ?_; rintro e w' ⟨rfl, rfl⟩) | (go_at_call 8; refine (told_any _).mono ?_; rintro e w' ⟨rfl, hb⟩))
    go_ret
    exact ⟨rfl, hb⟩
  | true =>
  cases f2 : fewB ys with
  | false =>
    have hf1 := fun w h => few_any A1 n1 c1 xs w h (by omega)
    rw [f1] at hf1
    have HF1 := Lib.hid hf1
    have hf2 := fun w h => few_any A2 n2 c2 ys w h (by omega)
    rw [f2] at hf2
    have HF2 := Lib.hid hf2
    clear hf1 hf2
    go_enter Try.func4, Try.ntmps4
    go_wp2_with fail
    refine (HF1.out _ H1.out).mono ?_
    rintro e w' ⟨rfl, rfl⟩
    go_wp2_with fail
    refine (HF2.out _ H2.out).mono ?_
    rintro e w' ⟨rfl, rfl⟩
    go_wp2_with (first | (go_at_call 8; refine (told_any _).mono ?_; rintro e w' ⟨rfl, hb⟩))
    go_ret
    exact ⟨rfl, hb⟩
  | true =>
    have hf1 := fun w h => few_any A1 n1 c1 xs w h (by omega)
    rw [f1] at hf1
    have HF1 := Lib.hid hf1
    have hf2 := fun w h => few_any A2 n2 c2 ys w h (by omega)
    rw [f2] at hf2
    have HF2 := Lib.hid hf2
    clear hf1 hf2
    have s1 : n1 ≤ 60 := by have := L1.out; unfold fewB at f1; simp at f1; omega
    have s2 : n2 ≤ 60 := by have := L2.out; unfold fewB at f2; simp at f2; omega
    clear f1 f2
    have ml := meet_le xs ys
    have ml2 : meet xs ys ≤ n2 := by have := L2.out; omega
    have q1 : (meet xs ys : Int) ≤ (n2 : Int) := by omega
    clear ml
    go_enter Try.func4, Try.ntmps4
    go_wp2_with fail
    refine (HF1.out _ H1.out).mono ?_
    rintro e w' ⟨rfl, rfl⟩
    go_wp2_with fail
    refine (HF2.out _ H2.out).mono ?_
    rintro e w' ⟨rfl, rfl⟩
    clear HF1 HF2
    go_wp2_with fail
    refine (keep_any A1 A2 n1 n2 c1 c2 xs ys c _ H1.out H2.out (by omega) (by omega)).mono ?_
    rintro e w1 ⟨rfl, b1⟩
    go_wp2_with fail
    refine (refKeep_any A1 A2 n1 n2 c1 c2 xs ys c _ (H1.out.after b1) (H2.out.after b1) (by omega) (by omega)).mono ?_
    rintro e w2 ⟨rfl, b2⟩
    have b2' := below_after b1 b2 b1.size
    go_wp2_with fail
    refine (told_any _).mono ?_
    rintro e w3 ⟨rfl, b3⟩
    have b3' := below_after b2' b3 b2'.size
    go_wp2_with fail
    refine (rest_any A1 A2 n1 n2 c1 c2 xs ys _ (H1.out.after b3') (H2.out.after b3') (by omega) (by omega) k2 M2.out O2.out).mono ?_
    rintro e w4 ⟨A4, c4, rfl, g4, b4⟩
    have b4' := below_after b3' b4 b3'.size
    go_wp2_with fail
    refine (refMeet_any A1 A2 n1 n2 c1 c2 xs ys _ (H1.out.after b4') (H2.out.after b4') (by omega) (by omega)).mono ?_
    rintro e w5 ⟨rfl, q5, rfl⟩
    have b5' := below_drewN b4' q5
    go_wp2_with fail
    all_goals
      refine (sameL_any A4 _ (n2 - meet xs ys) (n2 - meet xs ys) c4 _ (ys.drop (meet xs ys)) (ys.drop (meet xs ys)) _ (g4.rd.after (below_drewN (Below.refl _ _) q5)) ?h2 (by omega) (by omega)).mono ?_
      case h2 =>
        first
          | exact (H2.out.after b5').drop_ ml2
          | (rw [show n2 - meet xs ys = 0 by omega, List.drop_eq_nil_of_le (by have := L2.out; omega)]; exact RdE.empty _ _ _)
      rw [sameL_drop]
      rintro e w6 ⟨rfl, b6⟩
      have b6' := below_after b5' b6 b5'.size
      go_wp2_with fail
      refine (clash_any A1 A2 n1 n2 c1 _ xs ys _ (H1.out.after b6') (H2.out.after b6') (by omega) (by omega)).mono ?_
      rintro e w7 ⟨rfl, b7⟩
      have b7' := below_after b6' b7 b6'.size
      go_wp2_with fail
      refine (refClash_any A1 A2 n1 n2 c1 _ xs ys _ (H1.out.after b7') (H2.out.after b7') (by omega) (by omega)).mono ?_
      rintro e w8 ⟨rfl, b8⟩
      have b8' := below_after b7' b8 b7'.size
      go_wp2
      go_ret
      exact ⟨by simp, b8'⟩
end Go.Proofs.Ytmhjhhonmomlgaa
