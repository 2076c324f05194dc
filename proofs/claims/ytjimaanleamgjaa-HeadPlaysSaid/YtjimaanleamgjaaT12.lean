import Derived.Test.YtjimaanleamgjaaT11
namespace Go.Proofs.Ytjimaanleamgjaa
open Go.RowKit

theorem i64_id {n : Int} (h1 : -9223372036854775808 ≤ n) (h2 : n ≤ 9223372036854775807) : IntKind.i64.wrap n = n := by
  simp [IntKind.wrap, IntKind.bits, IntKind.signed]; omega

/-- A policy's variable. -/
structure PVs (p : Nat) (cnt span : Int) (w : World) : Prop where
  p0 : w.cell? ⟨p, 0, none⟩ = some (.int .i64 60)
  p1 : w.cell? ⟨p, 1, none⟩ = some (.int .i64 600)
  p2 : w.cell? ⟨p, 2, none⟩ = some (.int .i64 6000)
  p3 : w.cell? ⟨p, 3, none⟩ = some (.int .i64 0)
  p4 : w.cell? ⟨p, 4, none⟩ = some (.int .i64 cnt)
  p5 : w.cell? ⟨p, 5, none⟩ = some (.int .i64 span)
theorem PVs.keep {p : Nat} {cnt span : Int} {w w' : World} (t : PVs p cnt span w) (hb : Below w.heap.size w w') : PVs p cnt span w' :=
  ⟨cell_after hb t.p0, cell_after hb t.p1, cell_after hb t.p2, cell_after hb t.p3, cell_after hb t.p4, cell_after hb t.p5⟩

set_option maxHeartbeats 2000000 in
/-- HeadTimes' walk. -/
theorem times_row (a0 a1 a2 : Int) (w : World) (_w0 : (Lit.int .i64 a0).wf = true) (_w1 : (Lit.int .i64 a1).wf = true) (_w2 : (Lit.int .i64 a2).wf = true) :
    Calls Try.prog 6 #[.int .i64 a0, .int .i64 a1, .int .i64 a2] w fun e w' => e = .returned (.bool true) ∧ Below w.heap.size w w' := by
  obtain ⟨x, hx, hxl⟩ := rem_nat a0 1000000 (by omega)
  obtain ⟨s, hs, hsl⟩ := rem_nat a1 200 (by omega)
  obtain ⟨r, hr, hrl⟩ := rem_nat a2 5 (by omega)
  have u0 := u64_nn a0
  have u1 := u64_nn a1
  have u2 := u64_nn a2
  have i1 : IntKind.i64.wrap (x : Int) = (x : Int) := i64_id (by omega) (by omega)
  have i2 : IntKind.i64.wrap (s : Int) = (s : Int) := i64_id (by omega) (by omega)
  have i3 : IntKind.i64.wrap (r : Int) = (r : Int) := i64_id (by omega) (by omega)
  have i4 : IntKind.i64.wrap (1 + (s : Int)) = 1 + (s : Int) := i64_id (by omega) (by omega)
  have i5 : IntKind.i64.wrap ((x : Int) + (1 + (s : Int))) = (x : Int) + (1 + (s : Int)) := i64_id (by omega) (by omega)
  have i6 : IntKind.i64.wrap ((x : Int) + (1 + (s : Int)) + (r : Int)) = (x : Int) + (1 + (s : Int)) + (r : Int) := i64_id (by omega) (by omega)
  have i7 : IntKind.i64.wrap ((x : Int) + (1 + (s : Int)) + (r : Int) - 2) = (x : Int) + (1 + (s : Int)) + (r : Int) - 2 := i64_id (by omega) (by omega)
  have i8 : IntKind.i64.wrap ((x : Int) + 1) = (x : Int) + 1 := i64_id (by omega) (by omega)
  go_enter Try.func6, Try.ntmps6
  go_wp2_with fail
  refine (default_any _).mono ?_
  rintro e w1 ⟨rfl, b1⟩
  go_wp2_with fail
  have T0 : Hid (PVs w1.heap.size 8 (1 + (s : Int)) (((w1.alloc (.cells #[.int .i64 60, .int .i64 600, .int .i64 6000, .int .i64 0, .int .i64 8, .int .i64 (1 + (s : Int))] 40)).alloc (.cells #[.int .i64 x, .int .i64 1, .int .i64 ((x : Int) + 1), .int .i64 2] 30)).alloc (.cells #[.int .i64 0, .slice (some ⟨w1.heap.size + 1, 0, none⟩) 2 2] 25))) :=
    Lib.hid ⟨by simp [go_sem], by simp [go_sem], by simp [go_sem], by simp [go_sem], by simp [go_sem], by simp [go_sem]⟩
  have gh : GotS (((w1.alloc (.cells #[.int .i64 60, .int .i64 600, .int .i64 6000, .int .i64 0, .int .i64 8, .int .i64 (1 + (s : Int))] 40)).alloc (.cells #[.int .i64 x, .int .i64 1, .int .i64 ((x : Int) + 1), .int .i64 2] 30)).alloc (.cells #[.int .i64 0, .slice (some ⟨w1.heap.size + 1, 0, none⟩) 2 2] 25)) 2 [⟨x, 1⟩, ⟨(x : Int) + 1, 2⟩] (some ⟨w1.heap.size + 1, 0, none⟩) 2 := by
    refine ⟨RdS.of_block (cs := ([⟨x, 1⟩, ⟨(x : Int) + 1, 2⟩] : List Smp).flatMap Smp.enc |>.toArray) [⟨x, 1⟩, ⟨(x : Int) + 1, 2⟩] ?_ rfl, Nat.le_refl _, by simp [maxLen], (fun h => by cases h), fun b o e _ => by
      injection e with e
      injection e with e _
      subst e
      exact ⟨_, (heap_old _ _ _ (by simp)).trans (heap_at _ _ _ (by simp))⟩⟩
    rw [heap_old _ _ _ (by simp), heap_at _ _ _ (by simp)]
    rfl
  have ok : Ok 0 [⟨x, 1⟩, ⟨(x : Int) + 1, 2⟩] := ⟨by omega, by omega, by simp; omega, by simp; omega, by simp; omega, by simp⟩
  have GH := Lib.hid gh
  have OK := Lib.hid ok
  clear gh ok
  refine (told_any _).mono ?_
  rintro e w2 ⟨rfl, hb⟩
  have b2 : Below w.heap.size w w2 := below_after ((((b1.alloc b1.size _).alloc (by simp; have := b1.size; omega) _)).alloc (by simp; have := b1.size; omega) _) hb (by simp; have := b1.size; omega)
  have T2 := T0.out.keep hb
  have G2 := GH.out.after hb
  have h0 : w2.cell? ⟨w1.heap.size + 1 + 1, 0, none⟩ = some (.int .i64 0) := cell_after hb (by simp [go_sem])
  have h1 : w2.cell? ⟨w1.heap.size + 1 + 1, 1, none⟩ = some (.slice (some ⟨w1.heap.size + 1, 0, none⟩) 2 2) := cell_after hb (by simp [go_sem])
  clear hb T0 GH
  have q0 := T2.p0
  have q1 := T2.p1
  have q2 := T2.p2
  have q3 := T2.p3
  have q4 := T2.p4
  have q5 := T2.p5
  have TT := Lib.hid T2
  have GG := Lib.hid G2
  clear T2 G2
  generalize hN : (x : Int) + (1 + (s : Int)) + (r : Int) - 2 = nw at i7 ⊢
  clear hN i7 i6 i3 hr u2
  go_wp2_with fail
  refine (due_some 0 _ 2 2 _ ⟨x, 1⟩ 8 (1 + (s : Int)) nw _ GG.out.rd OK.out rfl (by omega) (by omega) (by omega) (by omega)).mono ?_
  have hd : dueB 8 2 (⟨x, 1⟩ : Smp).t (1 + (s : Int)) nw = decide ((x : Int) + (1 + (s : Int)) ≤ nw) := by simp [dueB]
  rw [hd]
  rintro e w3 ⟨rfl, hb⟩
  have b3 := below_after b2 hb b2.size
  have T3 := TT.out.keep hb
  clear hb q0 q1 q2 q3 q4 q5 h0 h1 TT GG hd
  have q0 := T3.p0
  have q1 := T3.p1
  have q2 := T3.p2
  have q3 := T3.p3
  have q4 := T3.p4
  have q5 := T3.p5
  clear T3
  by_cases hq : (x : Int) + (1 + (s : Int)) ≤ nw
  all_goals
    go_wp2_with fail
    refine (due_none x _ _ 8 (1 + (s : Int)) nw _ (by omega) (by omega) (by omega) (by omega) (by omega) (by omega)).mono ?_
    rintro e w4 ⟨rfl, hb⟩
    have b4 := below_after b3 hb b3.size
    go_wp2
    go_ret
    exact ⟨rfl, b4⟩
end Go.Proofs.Ytjimaanleamgjaa
