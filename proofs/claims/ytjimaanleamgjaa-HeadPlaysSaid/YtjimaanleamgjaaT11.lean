import Derived.Test.YtjimaanleamgjaaT10
namespace Go.Proofs.Ytjimaanleamgjaa
open Go.RowKit

/-- A block that holds the samples xs, and nothing else. -/
theorem RdS.of_block {w : World} {g : Nat} {cs : Array Value} (xs : List Smp) (hh : w.heap[g]? = some (.cells cs 30 (0, 0))) (hc : cs = (xs.flatMap Smp.enc).toArray) : RdS w w.heap.size (some ⟨g, 0, none⟩) xs.length xs := by
  refine ⟨rfl, flat_len Smp.enc 2 Smp.enc_len xs, fun _ => ⟨g, 0, rfl, (Array.getElem?_eq_some_iff.1 hh).1, fun j u hu => ?_⟩⟩
  rw [cell_of_row w g (0 + j) cs 30 (0, 0) hh, hc]
  simpa using hu

def h25 : List Smp := [⟨2, 0⟩, ⟨5, 0⟩]
def h235 : List Smp := [⟨2, 0⟩, ⟨3, 7⟩, ⟨5, 0⟩]
theorem ok25 : Ok 2 h25 := ⟨by omega, by omega, by simp [h25], by simp [h25], by simp [h25], by simp [h25]⟩
theorem ok235 : Ok 2 h235 := ⟨by omega, by omega, by simp [h235], by simp [h235], by simp [h235], by simp [h235]⟩
theorem put3 : putL 2 h25 ⟨3, 7⟩ = h235 ∧ putC 2 h25 ⟨3, 7⟩ = 0 := by simp [putL, putC, h25, h235, hit, ins, pos]
theorem put5 : putL 2 h25 ⟨5, 0⟩ = h25 ∧ putC 2 h25 ⟨5, 0⟩ = 7 := by simp [putL, putC, h25, hit]
theorem put1 : putL 2 h25 ⟨1, 0⟩ = h25 ∧ putC 2 h25 ⟨1, 0⟩ = 6 := by simp [putL, putC]

/-- told's two heads: their variables, their slices. -/
structure TV (h a : Nat) (A A1 : Option Addr) (c c1 : Nat) (w : World) : Prop where
  h0 : w.cell? ⟨h, 0, none⟩ = some (.int .i64 2)
  h1 : w.cell? ⟨h, 1, none⟩ = some (.slice A 2 c)
  a0 : w.cell? ⟨a, 0, none⟩ = some (.int .i64 2)
  a1 : w.cell? ⟨a, 1, none⟩ = some (.slice A1 3 c1)
  gh : GotS w 2 h25 A c
  ga : GotS w 3 h235 A1 c1
theorem TV.keep {h a : Nat} {A A1 : Option Addr} {c c1 : Nat} {w w' : World} (t : TV h a A A1 c c1 w) (hb : Below w.heap.size w w') : TV h a A A1 c c1 w' :=
  ⟨cell_after hb t.h0, cell_after hb t.h1, cell_after hb t.a0, cell_after hb t.a1, t.gh.after hb, t.ga.after hb⟩
theorem TV.lth {h a : Nat} {A A1 : Option Addr} {c c1 : Nat} {w : World} (t : TV h a A A1 c c1 w) : h < w.heap.size := World.block_lt_of_cell? w _ t.h0
theorem TV.lta {h a : Nat} {A A1 : Option Addr} {c c1 : Nat} {w : World} (t : TV h a A A1 c c1 w) : a < w.heap.size := World.block_lt_of_cell? w _ t.a0
/-- The policy's variable. -/
structure PV (p : Nat) (w : World) : Prop where
  p0 : w.cell? ⟨p, 0, none⟩ = some (.int .i64 60)
  p1 : w.cell? ⟨p, 1, none⟩ = some (.int .i64 600)
  p2 : w.cell? ⟨p, 2, none⟩ = some (.int .i64 6000)
  p3 : w.cell? ⟨p, 3, none⟩ = some (.int .i64 0)
  p4 : w.cell? ⟨p, 4, none⟩ = some (.int .i64 8)
  p5 : w.cell? ⟨p, 5, none⟩ = some (.int .i64 30)
theorem PV.keep {p : Nat} {w w' : World} (t : PV p w) (hb : Below w.heap.size w w') : PV p w' :=
  ⟨cell_after hb t.p0, cell_after hb t.p1, cell_after hb t.p2, cell_after hb t.p3, cell_after hb t.p4, cell_after hb t.p5⟩
theorem below_alloc (w : World) (o : Obj) : Below w.heap.size w (w.alloc o) := (Below.refl _ _).alloc (Nat.le_refl _) _

set_option maxHeartbeats 4000000 in
set_option maxRecDepth 100000 in
theorem told_any (w : World) : Calls Try.prog 9 #[] w fun e w' => e = .returned (.bool true) ∧ Below w.heap.size w w' := by
  obtain ⟨A0, hA0⟩ : ∃ A0 : Option Addr, A0 = some ⟨w.heap.size, 0, none⟩ := ⟨_, rfl⟩
  have HA0 := Lib.hid hA0
  clear hA0
  go_enter Try.func9, Try.ntmps9
  go_wp2_with fail
  rw [← HA0.out]
  have g0 : GotS ((w.alloc (.cells #[.int .i64 2, .int .i64 0, .int .i64 5, .int .i64 0] 30)).alloc (.cells #[.int .i64 2, .slice A0 2 2] 25)) 2 h25 A0 2 := by
    refine ⟨?_, Nat.le_refl _, by simp [maxLen], (fun h => absurd (HA0.out.symm.trans h) (by simp)), ?_⟩
    rotate_left
    · intro b o e _
      have e := HA0.out.symm.trans e
      injection e with e
      injection e with e _
      subst e
      exact ⟨_, (heap_old _ _ _ (by simp)).trans (heap_at _ _ _ rfl)⟩
    rw [HA0.out]
    exact RdS.of_block (cs := (h25.flatMap Smp.enc).toArray) h25 (by rw [heap_old _ _ _ (by simp), heap_at _ _ _ rfl]; rfl) rfl
  refine (put_any 2 A0 2 2 h25 ⟨3, 7⟩ _ g0 ok25 (by show (0 : Int) ≤ 3; omega) (by show (3 : Int) < _; omega)).mono ?_
  rw [put3.1, put3.2]
  rintro e w1 ⟨A1, c1, rfl, g1, hb⟩
  have b1 : Below w.heap.size w w1 := below_after (((Below.refl _ _).alloc (Nat.le_refl _) _).alloc (by simp) _) hb (by simp; omega)
  have gh := g0.after hb
  have h0 : w1.cell? ⟨w.heap.size + 1, 0, none⟩ = some (.int .i64 2) := cell_after hb (by simp [go_sem])
  have h1 : w1.cell? ⟨w.heap.size + 1, 1, none⟩ = some (.slice A0 2 2) := cell_after hb (by simp [go_sem])
  have lh : w.heap.size + 1 < w1.heap.size := World.block_lt_of_cell? w1 _ h0
  have T1 : Hid (TV (w.heap.size + 1) w1.heap.size A0 A1 2 c1 (w1.alloc (.cells #[.int .i64 2, .slice A1 3 c1] 25))) := Lib.hid ⟨cell_alloc h0, cell_alloc h1, by simp [go_sem], by simp [go_sem], gh.after (below_alloc _ _), g1.after (below_alloc _ _)⟩
  clear hb gh g0 g1
  go_wp2_with fail
  refine (put_any 2 A0 2 2 h25 ⟨5, 0⟩ _ T1.out.gh ok25 (by show (0 : Int) ≤ 5; omega) (by show (5 : Int) < _; omega)).mono ?_
  rw [put5.1, put5.2]
  rintro e w2 ⟨A2, c2, rfl, g2, hb⟩
  have T2 := T1.out.keep hb
  have b2 := below_after b1 (below_after (below_alloc _ _) hb (by simp)) b1.size
  clear hb g2 h0 h1 lh
  have h0 := T2.h0
  have h1 := T2.h1
  have a0 := T2.a0
  have a1 := T2.a1
  have lh := T2.lth
  have la := T2.lta
  have U2 := Lib.hid (T2.keep (below_alloc w2 (.cells #[.int .i64 2, .slice A2 2 c2] 25)))
  clear T2
  go_wp2_with fail
  refine (put_any 2 A0 2 2 h25 ⟨1, 0⟩ _ U2.out.gh ok25 (by show (0 : Int) ≤ 1; omega) (by show (1 : Int) < _; omega)).mono ?_
  rw [put1.1, put1.2]
  rintro e w3 ⟨A3, c3, rfl, g3, hb⟩
  have T3 := U2.out.keep hb
  have b3 := below_after b2 (below_after (below_alloc _ _) hb (by simp)) b2.size
  clear hb g3
  clear h0 h1 a0 a1 lh la
  have h0 := T3.h0
  have h1 := T3.h1
  have a0 := T3.a0
  have a1 := T3.a1
  have lh := T3.lth
  have la := T3.lta
  have U3 := Lib.hid (T3.keep (below_alloc w3 (.cells #[.int .i64 2, .slice A3 2 c3] 25)))
  clear T3
  go_wp2_with fail
  refine (seal_some 2 A1 3 c1 h235 ⟨5, 0⟩ _ U3.out.ga ok235 rfl (by omega)).mono ?_
  rintro e w4 hS
  obtain ⟨A4, c4, B4, d4, rfl, g4', g4, hb⟩ : SealS _ 6 [] h235 2 6 0 e w4 := hS
  have e3 : h235.length = 3 := rfl
  simp only [e3, List.length_nil] at g4 g4' ⊢
  have T4 := U3.out.keep hb
  have b4 := below_after b3 (below_after (below_alloc _ _) hb (by simp)) b3.size
  clear hb e3
  clear h0 h1 a0 a1 lh la
  have h0 := T4.h0
  have h1 := T4.h1
  have a0 := T4.a0
  have a1 := T4.a1
  have lh := T4.lth
  have la := T4.lta
  have U4 := Lib.hid (T4.keep (below_alloc w4 (.cells #[.int .i64 6, .slice A4 0 c4] 25)))
  clear T4
  go_wp2_with fail
  have g5 : GotS (w4.alloc (.cells #[.int .i64 6, .slice A4 0 c4] 25)) 0 [] A4 c4 := g4'.after (below_alloc _ _)
  refine (seal_none 6 A4 c4 _ g5 (Ok.nil (by omega) (by omega))).mono ?_
  rintro e w5 ⟨A5, c5, B5, d5, rfl, _, _, hb⟩
  simp only [List.length_nil]
  have T5 := U4.out.keep hb
  have v0 : w5.cell? ⟨w4.heap.size, 0, none⟩ = some (.int .i64 6) := cell_after hb (by simp [go_sem])
  have v1 : w5.cell? ⟨w4.heap.size, 1, none⟩ = some (.slice A4 0 c4) := cell_after hb (by simp [go_sem])
  have b5 := below_after b4 (below_after (below_alloc _ _) hb (by simp)) b4.size
  clear hb g4 g4' g5
  clear h0 h1 a0 a1 lh la
  have h0 := T5.h0
  have h1 := T5.h1
  have a0 := T5.a0
  have a1 := T5.a1
  have lh := T5.lth
  have la := T5.lta
  have lv : w4.heap.size < w5.heap.size := World.block_lt_of_cell? w5 _ v0
  have U5 := Lib.hid (T5.keep (below_alloc w5 (.cells #[.int .i64 6, .slice A5 0 c5] 25)))
  clear T5
  go_wp2_with fail
  refine (default_any _).mono ?_
  rintro e w6 ⟨rfl, hb⟩
  have T6 := U5.out.keep hb
  have v0 := cell_after hb (cell_alloc (o := .cells #[.int .i64 6, .slice A5 0 c5] 25) v0)
  have v1 := cell_after hb (cell_alloc (o := .cells #[.int .i64 6, .slice A5 0 c5] 25) v1)
  have b6 := below_after b5 (below_after (below_alloc _ _) hb (by simp)) b5.size
  clear hb
  clear h0 h1 a0 a1 lh la lv
  have h0 := T6.h0
  have h1 := T6.h1
  have a0 := T6.a0
  have a1 := T6.a1
  have lh := T6.lth
  have la := T6.lta
  have lv : w4.heap.size < w6.heap.size := World.block_lt_of_cell? w6 _ v0
  obtain ⟨xb, xo, x, rfl, xlt, xe, xat⟩ := T6.ga.rd.at_ 1 (by omega)
  obtain rfl : x = ⟨3, 7⟩ := by simp [h235] at xe; exact xe.symm
  have x1 := xat.c1
  simp only [Nat.one_mul] at x1
  have x1' : w6.cell? ⟨xb, xo + 2 + 1, none⟩ = some (.int .i64 7) := x1
  clear x1 xat xe
  have U6 := Lib.hid (T6.keep (below_alloc w6 (.cells #[.int .i64 60, .int .i64 600, .int .i64 6000, .int .i64 0, .int .i64 8, .int .i64 30] 40)))
  have P6 : Hid (PV w6.heap.size (w6.alloc (.cells #[.int .i64 60, .int .i64 600, .int .i64 6000, .int .i64 0, .int .i64 8, .int .i64 30] 40))) := Lib.hid ⟨by simp [go_sem], by simp [go_sem], by simp [go_sem], by simp [go_sem], by simp [go_sem], by simp [go_sem]⟩
  clear T6
  go_wp2_with fail
  refine (due_some 2 A0 2 2 h25 ⟨2, 0⟩ 8 30 31 _ U6.out.gh.rd ok25 rfl (by omega) (by omega) (by omega) (by omega)).mono ?_
  have d31 : dueB 8 2 (⟨2, 0⟩ : Smp).t 30 31 = false := by simp [dueB]
  rw [d31]
  rintro e w7 ⟨rfl, hb⟩
  have T7 := U6.out.keep hb
  have P7 := P6.out.keep hb
  have b7 := below_after b6 (below_after (below_alloc _ _) hb (by simp)) b6.size
  clear hb d31 x1' v0 v1 lv
  clear h0 h1 a0 a1 lh la
  have h0 := T7.h0
  have h1 := T7.h1
  have a0 := T7.a0
  have a1 := T7.a1
  have lh := T7.lth
  have la := T7.lta
  have q0 := P7.p0
  have q1 := P7.p1
  have q2 := P7.p2
  have q3 := P7.p3
  have q4 := P7.p4
  have q5 := P7.p5
  have U7 := Lib.hid T7
  have Q7 := Lib.hid P7
  clear T7 P7
  go_wp2_with fail
  refine (due_some 2 A0 2 2 h25 ⟨2, 0⟩ 8 30 32 _ U7.out.gh.rd ok25 rfl (by omega) (by omega) (by omega) (by omega)).mono ?_
  have d32 : dueB 8 2 (⟨2, 0⟩ : Smp).t 30 32 = true := by simp [dueB]
  rw [d32]
  rintro e w8 ⟨rfl, hb⟩
  have T8 := U7.out.keep hb
  have b8 := below_after b7 hb b7.size
  clear hb d32
  clear h0 h1 a0 a1 lh la
  clear q0 q1 q2 q3 q4 q5
  have h0 := T8.h0
  have h1 := T8.h1
  have a0 := T8.a0
  have a1 := T8.a1
  have lh := T8.lth
  have la := T8.lta
  have U8 := Lib.hid T8
  clear T8
  go_wp2_with fail
  refine (may_any 2 A0 2 2 h25 _ U8.out.gh.rd ok25).mono ?_
  rintro e w9 ⟨rfl, hb⟩
  have T9 := U8.out.keep hb
  have b9 := below_after b8 hb b8.size
  clear hb
  clear h0 h1 a0 a1 lh la
  have h0 := T9.h0
  have h1 := T9.h1
  have a0 := T9.a0
  have a1 := T9.a1
  have lh := T9.lth
  have la := T9.lta
  have U9 := Lib.hid T9
  clear T9
  go_wp2_with fail
  refine (may_low 2 3 A0 2 2 h25 ⟨2, 0⟩ _ U9.out.gh.rd ok25 rfl (by omega) (by omega) (by show (2 : Int) < 3; omega)).mono ?_
  rintro e w10 ⟨rfl, hb⟩
  have T10 := U9.out.keep hb
  have b10 := below_after b9 hb b9.size
  clear hb
  clear h0 h1 a0 a1 lh la
  have h0 := T10.h0
  have h1 := T10.h1
  have a0 := T10.a0
  have a1 := T10.a1
  have lh := T10.lth
  have la := T10.lta
  have U10 := Lib.hid T10
  clear T10
  go_wp2_with fail
  refine (same_yes 2 A0 A0 2 2 2 h25 _ U10.out.gh.rd U10.out.gh.rd (by omega)).mono ?_
  rintro e w11 ⟨rfl, hb⟩
  have T11 := U10.out.keep hb
  have b11 := below_after b10 hb b10.size
  clear hb
  clear h0 h1 a0 a1 lh la
  have h0 := T11.h0
  have h1 := T11.h1
  have a0 := T11.a0
  have a1 := T11.a1
  have lh := T11.lth
  have la := T11.lta
  clear T11
  go_wp2_with fail
  refine (same_no 2 _ _ 2 3 _ _ _ (by omega)).mono ?_
  rintro e w12 ⟨rfl, hb⟩
  have b12 := below_after b11 hb b11.size
  clear hb
  clear h0 h1 a0 a1 lh la
  go_wp2
  go_ret
  exact ⟨rfl, b12⟩
end Go.Proofs.Ytjimaanleamgjaa
