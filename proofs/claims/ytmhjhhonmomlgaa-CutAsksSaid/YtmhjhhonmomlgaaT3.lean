import Derived.Test.YtmhjhhonmomlgaaT2
import Derived.WalkSpells
namespace Go.Proofs.Ytmhjhhonmomlgaa
open Go.RowKit

/-- What Keep answers: how many stay, a code. -/
def keepN (xs ys : List Ent) (c : Int) : Int := if c < 0 ∨ (xs.length : Int) < c then 0 else if (meet xs ys : Int) < c then 0 else meet xs ys
def keepC (xs ys : List Ent) (c : Int) : Int := if c < 0 ∨ (xs.length : Int) < c then 5 else if (meet xs ys : Int) < c then 10 else 0

theorem keep_any (A1 A2 : Option Addr) (n1 n2 c1 c2 : Nat) (xs ys : List Ent) (c : Int) (w : World) (h1 : RdE w w.heap.size A1 n1 xs) (h2 : RdE w w.heap.size A2 n2 ys) (m1 : n1 ≤ 9223372036854775807) (m2 : n2 ≤ 9223372036854775807) :
    Calls Try.prog 9 #[.slice A1 n1 c1, .slice A2 n2 c2, .int .i64 c] w fun e w' => e = .returned (.tuple #[.int .i64 (keepN xs ys c), .int .i64 (keepC xs ys c)]) ∧ Below w.heap.size w w' := by
  have L1 := Lib.hid h1.1
  have H1 := Lib.hid h1
  have H2 := Lib.hid h2
  clear h1 h2
  have ml := meet_le xs ys
  by_cases hc0 : c < 0
  · go_enter Try.func9, Try.ntmps9
    go_wp2
    go_ret2
    exact ⟨ret2_int (by unfold keepN; rw [if_pos (Or.inl hc0)]) (by unfold keepC; rw [if_pos (Or.inl hc0)]), Below.refl _ _⟩
  by_cases hc1 : (n1 : Int) < c
  · go_enter Try.func9, Try.ntmps9
    go_wp2
    go_ret2
    exact ⟨ret2_int (by unfold keepN; rw [if_pos (Or.inr (by rw [L1.out]; exact hc1))]) (by unfold keepC; rw [if_pos (Or.inr (by rw [L1.out]; exact hc1))]), Below.refl _ _⟩
  by_cases hc2 : (meet xs ys : Int) < c
  all_goals
    go_enter Try.func9, Try.ntmps9
    go_wp2_with (go_at_call 17; refine (meet_any _ _ _ _ _ _ xs ys _ H1.out H2.out m1 m2).mono ?_; rintro e w' ⟨rfl, hb⟩)
    go_ret2
    exact ⟨ret2_int (by unfold keepN; rw [if_neg (by have := L1.out; omega)]; split <;> omega) (by unfold keepC; rw [if_neg (by have := L1.out; omega)]; split <;> omega), hb⟩

theorem refKeep_any (A1 A2 : Option Addr) (n1 n2 c1 c2 : Nat) (xs ys : List Ent) (c : Int) (w : World) (h1 : RdE w w.heap.size A1 n1 xs) (h2 : RdE w w.heap.size A2 n2 ys) (m1 : n1 ≤ 9223372036854775807) (m2 : n2 ≤ 9223372036854775807) :
    Calls Try.prog 13 #[.slice A1 n1 c1, .slice A2 n2 c2, .int .i64 c] w fun e w' => e = .returned (.tuple #[.int .i64 (keepN xs ys c), .int .i64 (keepC xs ys c)]) ∧ Below w.heap.size w w' := by
  have L1 := Lib.hid h1.1
  have H1 := Lib.hid h1
  have H2 := Lib.hid h2
  clear h1 h2
  have ml := meet_le xs ys
  by_cases hc0 : c < 0
  · go_enter Try.func13, Try.ntmps13
    go_wp2
    go_ret2
    exact ⟨ret2_int (by unfold keepN; rw [if_pos (Or.inl hc0)]) (by unfold keepC; rw [if_pos (Or.inl hc0)]), Below.refl _ _⟩
  by_cases hc1 : (n1 : Int) < c
  · go_enter Try.func13, Try.ntmps13
    go_wp2
    go_ret2
    exact ⟨ret2_int (by unfold keepN; rw [if_pos (Or.inr (by rw [L1.out]; exact hc1))]) (by unfold keepC; rw [if_pos (Or.inr (by rw [L1.out]; exact hc1))]), Below.refl _ _⟩
  by_cases hc2 : (meet xs ys : Int) < c
  all_goals
    go_enter Try.func13, Try.ntmps13
    go_wp2_with (go_at_call 15; refine (refMeet_any _ _ _ _ _ _ xs ys _ H1.out H2.out m1 m2).mono ?_; rintro e w' ⟨rfl, q, rfl⟩)
    go_ret2
    exact ⟨ret2_int (by unfold keepN; rw [if_neg (by have := L1.out; omega)]; split <;> omega) (by unfold keepC; rw [if_neg (by have := L1.out; omega)]; split <;> omega), below_drewN (Below.refl _ _) _⟩

theorem refClash_any (A1 A2 : Option Addr) (n1 n2 c1 c2 : Nat) (xs ys : List Ent) (w : World) (h1 : RdE w w.heap.size A1 n1 xs) (h2 : RdE w w.heap.size A2 n2 ys) (m1 : n1 ≤ 9223372036854775807) (m2 : n2 ≤ 9223372036854775807) :
    Calls Try.prog 16 #[.slice A1 n1 c1, .slice A2 n2 c2] w fun e w' => e = .returned (.int .i64 (clash xs ys)) ∧ Below w.heap.size w w' := by
  have L1 := Lib.hid h1.1
  have L2 := Lib.hid h2.1
  have H1 := Lib.hid h1
  have H2 := Lib.hid h2
  clear h1 h2
  have ml := meet_le xs ys
  by_cases ha : meet xs ys < n1
  · by_cases hb : meet xs ys < n2
    · go_enter Try.func16, Try.ntmps16
      go_wp2_with (go_at_call 15; refine (refMeet_any _ _ _ _ _ _ xs ys _ H1.out H2.out m1 m2).mono ?_; rintro e w' ⟨rfl, q, rfl⟩)
      go_ret
      exact ⟨congrArg (fun z => Ending.returned (.int .i64 z)) (by unfold clash; rw [if_pos (by rw [L1.out, L2.out]; exact ⟨ha, hb⟩)]), below_drewN (Below.refl _ _) _⟩
    · go_enter Try.func16, Try.ntmps16
      go_wp2_with (go_at_call 15; refine (refMeet_any _ _ _ _ _ _ xs ys _ H1.out H2.out m1 m2).mono ?_; rintro e w' ⟨rfl, q, rfl⟩)
      go_ret
      exact ⟨congrArg (fun z => Ending.returned (.int .i64 z)) (by unfold clash; rw [if_neg (by rw [L1.out, L2.out]; omega)]), below_drewN (Below.refl _ _) _⟩
  · go_enter Try.func16, Try.ntmps16
    go_wp2_with (go_at_call 15; refine (refMeet_any _ _ _ _ _ _ xs ys _ H1.out H2.out m1 m2).mono ?_; rintro e w' ⟨rfl, q, rfl⟩)
    go_ret
    exact ⟨congrArg (fun z => Ending.returned (.int .i64 z)) (by unfold clash; rw [if_neg (by rw [L1.out, L2.out]; omega)]), below_drewN (Below.refl _ _) _⟩

/-- Are two lists the same, one by one? -/
def sameL (xs ys : List Ent) : Bool := xs.length == ys.length && meet xs ys == xs.length

theorem front_any (A1 A2 : Option Addr) (n1 n2 c1 c2 : Nat) (xs ys : List Ent) (w : World) (h1 : RdE w w.heap.size A1 n1 xs) (h2 : RdE w w.heap.size A2 n2 ys) (m1 : n1 ≤ 9223372036854775807) (m2 : n2 ≤ 9223372036854775807) :
    Calls Try.prog 20 #[.slice A1 n1 c1, .slice A2 n2 c2] w fun e w' => e = .returned (.bool ((meet xs ys : Int) == (n1 : Int))) ∧ Below w.heap.size w w' := by
  have H1 := Lib.hid h1
  have H2 := Lib.hid h2
  clear h1 h2
  go_enter Try.func20, Try.ntmps20
  go_wp2_with (go_at_call 15; refine (refMeet_any _ _ _ _ _ _ xs ys _ H1.out H2.out m1 m2).mono ?_; rintro e w' ⟨rfl, q, rfl⟩)
  go_ret
  exact ⟨rfl, below_drewN (Below.refl _ _) _⟩

theorem sameL_any (A1 A2 : Option Addr) (n1 n2 c1 c2 : Nat) (xs ys : List Ent) (w : World) (h1 : RdE w w.heap.size A1 n1 xs) (h2 : RdE w w.heap.size A2 n2 ys) (m1 : n1 ≤ 9223372036854775807) (m2 : n2 ≤ 9223372036854775807) :
    Calls Try.prog 14 #[.slice A1 n1 c1, .slice A2 n2 c2] w fun e w' => e = .returned (.bool (sameL xs ys)) ∧ Below w.heap.size w w' := by
  have L1 := Lib.hid h1.1
  have L2 := Lib.hid h2.1
  have H1 := Lib.hid h1
  have H2 := Lib.hid h2
  clear h1 h2
  by_cases ha : n1 = n2
  · subst ha
    go_enter Try.func14, Try.ntmps14
    go_wp2_with (go_at_call 20; refine (front_any _ _ _ _ _ _ xs ys _ H1.out H2.out m1 m2).mono ?_; rintro e w' ⟨rfl, hb⟩)
    go_ret
    exact ⟨congrArg (fun z => Ending.returned (.bool z)) (by unfold sameL; rw [L1.out, L2.out, Bool.eq_iff_iff]; simp; omega), hb⟩
  · have e0 : ((n1 : Int) == (n2 : Int)) = false := by simp; omega
    go_enter Try.func14, Try.ntmps14
    go_wp2_with (go_at_call 20; refine (front_any _ _ _ _ _ _ xs ys _ H1.out H2.out m1 m2).mono ?_; rintro e w' ⟨rfl, hb⟩)
    go_ret
    exact ⟨congrArg (fun z => Ending.returned (.bool z)) (by unfold sameL; rw [L1.out, L2.out]; simp [ha]), Below.refl _ _⟩

theorem ent_info : (Try.prog.info? 29).map (fun i => (i.zero, i.size, i.bytes)) = some (some (.agg #[.int .i64 0, .int .i64 0, .int .i64 0, .int .i64 0, .int .i64 0, .int .i64 0, .int .u32 0, .string ByteArray.empty]), 8, 72) := by kernel_rfl

theorem enc_one (es : List Ent) : ∀ u ∈ es.flatMap Ent.enc, u.oneCell' = true := by
  intro u hu
  obtain ⟨e, _, h⟩ := List.mem_flatMap.1 hu
  simp [Ent.enc] at h
  rcases h with rfl | rfl | rfl | rfl | rfl | rfl | rfl | rfl <;> rfl

/-- A slice of the call's own whose elements are entries. -/
theorem RdE.of_own {w : World} {base n c : Nat} {A : Option Addr} {es : List Ent} (hl : es.length = n) (h : Own w base 29 8 (.slice A n c) n (es.flatMap Ent.enc)) : RdE w w.heap.size A n es := ⟨hl, h.rd⟩

theorem RdE.after {w w' : World} {n : Nat} {A : Option Addr} {es : List Ent} (h : RdE w w.heap.size A n es) (hb : Below w.heap.size w w') : RdE w' w'.heap.size A n es := ⟨h.1, h.2.after hb⟩
theorem RdE.more {w : World} {B B' n : Nat} {A : Option Addr} {es : List Ent} (h : RdE w B A n es) (hb : B ≤ B') : RdE w B' A n es := ⟨h.1, h.2.more hb⟩
theorem RdE.below {w w' : World} {B n : Nat} {A : Option Addr} {es : List Ent} (h : RdE w B A n es) (hb : Below B w w') : RdE w' B A n es := ⟨h.1, h.2.below hb⟩

/-- A slice of entries, as it goes from call to call. -/
structure GotE (w : World) (n : Nat) (xs : List Ent) (A : Option Addr) (c : Nat) : Prop where
  rd : RdE w w.heap.size A n xs
  le : n ≤ c
  cap : c ≤ maxLen
  nil : A = none → n = 0 ∧ c = 0
/-- It hands back a slice of the entries xs; what was there stands. -/
def GivesE (w : World) (n : Nat) (xs : List Ent) (e : Ending) (w' : World) : Prop :=
  ∃ A' c', e = .returned (.slice A' n c') ∧ GotE w' n xs A' c' ∧ Below w.heap.size w w'

/-- slices.Clone: a slice of the same elements in new memory (nil for nil). -/
theorem clone_any (A : Option Addr) (n c : Nat) (xs : List Ent) (w : World) (h : RdE w w.heap.size A n xs) (hA : A = none → n = 0 ∧ c = 0) (hn : n ≤ 1000000) :
    Calls Try.prog 19 #[.slice A n c] w (GivesE w n xs) := by
  cases A with
  | none =>
    obtain ⟨rfl, rfl⟩ := hA rfl
    have e0 := fun w => Lib.run_eql_slice_nil (P := Try.prog) w 23 29 none 0 0 0 0 Try.underlying23
    go_enter Try.func19, Try.ntmps19
    go_wp2
    go_ret
    exact ⟨none, 0, rfl, ⟨h, Nat.le_refl _, by simp [maxLen], fun _ => ⟨rfl, rfl⟩⟩, Below.refl _ _⟩
  | some a =>
    obtain ⟨i0, hi, hz0, hz1, hz2⟩ := info_parts ent_info
    have e0 := fun w => Lib.run_eql_slice_nil (P := Try.prog) w 23 29 (some a) n c 0 0 Try.underlying23
    go_enter Try.func19, Try.ntmps19
    go_wp2_with (at_builtin; refine wpList_append_rd _ rfl (.tmp 5) (.tmp 6) 23 rfl w.heap.size 29 i0 _ 8 72 Try.underlying23 hi hz0 hz1 hz2 rfl (by decide) (.slice (some ⟨w.heap.size, 0, none⟩) 0 0) 0 [] rfl (Own.built w 29 8) w.heap.size (some a) n c (xs.flatMap Ent.enc) rfl (h.2.below ((Below.refl _ _).alloc (Nat.le_refl _) _)) (fun h => by cases h) (enc_one xs) (by simp only [maxLen]; omega) (by omega) (by simp) ?_; intro v1 w1 hown1 hg1 hat1)
    go_ret
    obtain ⟨A', c', rfl, hnc, hcm, hnil⟩ := hown1.form
    have hb : Below w.heap.size w w1 := ((Below.refl _ _).alloc (Nat.le_refl _) _).grown hg1 (by simp) (fun k hk => by simp [Value.ownBlock] at hk; omega)
    exact ⟨A', c', by simp, ⟨RdE.of_own h.1 (by simpa using hown1), by simpa using hnc, hcm, by simpa using hnil⟩, hb⟩

theorem RdE.drop {w : World} {B n : Nat} {a : Addr} {es : List Ent} (h : RdE w B (some a) n es) {k : Nat} (hk : k ≤ n) : RdE w B (some (a.add (k * 8))) (n - k) (es.drop k) := by
  refine ⟨by rw [List.length_drop, h.1], ?_⟩
  have c := h.2.cut (i := k) (m := n - k) (by omega) (A' := some (a.add (k * 8))) (fun _ b off e => by injection e with e; subst e; rw [Addr.add_lit])
  rw [flat_drop Ent.enc 8 Ent.enc_len, List.take_of_length_le (by rw [flat_len Ent.enc 8 Ent.enc_len, List.length_drop, h.1]; omega)] at c
  exact c
theorem RdE.take {w : World} {B n : Nat} {A : Option Addr} {es : List Ent} (h : RdE w B A n es) {k : Nat} (hk : k ≤ n) : RdE w B A k (es.take k) := by
  refine ⟨by rw [List.length_take, h.1]; omega, ?_⟩
  have c := h.2.cut (i := 0) (m := k) (by omega) (A' := A) (fun _ b off e => by simpa using e)
  rw [Nat.zero_mul, List.drop_zero, flat_take Ent.enc 8 Ent.enc_len] at c
  exact c
theorem RdE.empty (w : World) (B : Nat) (A : Option Addr) : RdE w B A 0 [] := ⟨rfl, Rd.nil_ _ _ _ _⟩

/-- GivesE behind a call that left all that was there. -/
theorem GivesE.after {w w1 w' : World} {n : Nat} {xs : List Ent} {e : Ending} (hb : Below w.heap.size w w1) (h : GivesE w1 n xs e w') : GivesE w n xs e w' := by
  obtain ⟨A', c', he, hr, h4⟩ := h
  exact ⟨A', c', he, hr, hb.trans (h4.mono hb.size)⟩

theorem rest_any (A1 A2 : Option Addr) (n1 n2 c1 c2 : Nat) (xs ys : List Ent) (w : World) (h1 : RdE w w.heap.size A1 n1 xs) (h2 : RdE w w.heap.size A2 n2 ys) (m1 : n1 ≤ 1000000) (m2 : n2 ≤ 1000000)
    (hc : n2 ≤ c2) (hm : c2 ≤ maxLen) (hA : A2 = none → n2 = 0 ∧ c2 = 0) :
    Calls Try.prog 11 #[.slice A1 n1 c1, .slice A2 n2 c2] w (GivesE w (n2 - meet xs ys) (ys.drop (meet xs ys))) := by
  have ml := meet_le xs ys
  rw [h2.1] at ml
  have L2 := Lib.hid h2.1
  have H1 := Lib.hid h1
  have H2 := Lib.hid h2
  clear h1 h2
  unfold maxLen at hm
  cases A2 with
  | none =>
    obtain ⟨rfl, rfl⟩ := hA rfl
    have hy : ys = [] := List.eq_nil_of_length_eq_zero L2.out
    subst hy
    have e0 : meet xs [] = 0 := by cases xs <;> rfl
    rw [e0]
    clear hA hc hm e0 L2
    go_enter Try.func11, Try.ntmps11
    go_wp2_with (first
      | (go_at_call 17; refine (meet_any _ _ _ _ _ _ xs [] _ H1.out H2.out (by omega) (by omega)).mono ?_; rintro e w' ⟨rfl, hb⟩)
      | (go_at_call 19; refine (clone_any none 0 0 [] _ (RdE.empty _ _ _) (fun _ => ⟨rfl, rfl⟩) (by omega)).mono ?_; rintro e w2 ⟨A', c', rfl, g1, g2⟩))
    go_ret
    exact GivesE.after hb ⟨A', c', rfl, g1, g2⟩
  | some a =>
    have q1 : (meet xs ys : Int) ≤ (n2 : Int) := by omega
    clear hA
    by_cases hcm : c2 = meet xs ys
    · have hn : n2 = meet xs ys := by omega
      have hd : ys.drop (meet xs ys) = [] := List.drop_eq_nil_of_le (by have := L2.out; omega)
      have hz : n2 - meet xs ys = 0 := by omega
      rw [hd, hz]
      have e1 : (if c2 = meet xs ys then some a else some (a.add (meet xs ys * 8))) = some a := if_pos hcm
      have e2 : n2 - meet xs ys = 0 := hz
      have e3 : c2 - meet xs ys = 0 := by omega
      have HN := Lib.hid hn
      have HC := Lib.hid hcm
      clear hn hd hz hcm
      go_enter Try.func11, Try.ntmps11
      go_wp2_with (first
        | (go_at_call 17; refine (meet_any _ _ _ _ _ _ xs ys _ H1.out H2.out (by omega) (by omega)).mono ?_; rintro e w' ⟨rfl, hb⟩)
        | (go_at_call 19; refine (clone_any (some a) 0 0 [] _ (RdE.empty _ _ _) (fun h => by cases h) (by omega)).mono ?_; rintro e w2 ⟨A', c', rfl, g1, g2⟩))
      go_ret
      exact GivesE.after hb ⟨A', c', rfl, g1, g2⟩
    · have HC := Lib.hid hcm
      go_enter Try.func11, Try.ntmps11
      go_wp2_with (first
        | (go_at_call 17; refine (meet_any _ _ _ _ _ _ xs ys _ H1.out H2.out (by omega) (by omega)).mono ?_; rintro e w' ⟨rfl, hb⟩)
        | (go_at_call 19; refine (clone_any _ (n2 - meet xs ys) (c2 - meet xs ys) (ys.drop (meet xs ys)) _ (((H2.out.below hb).more hb.size).drop ml.2) (fun h => by cases h) (by omega)).mono ?_; rintro e w2 ⟨A', c', rfl, g1, g2⟩))
      go_ret
      exact GivesE.after hb ⟨A', c', rfl, g1, g2⟩
end Go.Proofs.Ytmhjhhonmomlgaa
