import Derived.Test.YtjimaanleamgjaaT7
namespace Go.Proofs.Ytjimaanleamgjaa
open Go.RowKit

/-- What Seal hands back. -/
def SealS (w : World) (z : Int) (ys : List Smp) (l : List Smp) (frm upto code : Int) (e : Ending) (w' : World) : Prop :=
  ∃ A' c' B' d', e = .returned (.tuple #[.agg #[.int .i64 z, .slice A' ys.length c'], .slice B' l.length d', .int .i64 frm, .int .i64 upto, .int .i64 code]) ∧ GotS w' ys.length ys A' c' ∧ GotS w' l.length l B' d' ∧ Below w.heap.size w w'

set_option maxHeartbeats 1000000 in
theorem seal_none (z : Int) (A : Option Addr) (c : Nat) (w : World) (h : GotS w 0 [] A c) (ok : Ok z []) :
    Calls Try.prog 14 #[.agg #[.int .i64 z, .slice A 0 c]] w (SealS w z [] [] 0 0 9) := by
  have z0 := ok.z0
  have z1 := ok.z1
  have H := Lib.hid h
  have OK := Lib.hid ok
  clear h ok
  go_enter Try.func14, Try.ntmps14
  go_wp2_with fail
  refine (may_any _ _ _ _ [] _ (RdS.empty _ _ _) OK.out).mono ?_
  rintro e w5 ⟨rfl, hb⟩
  have b5 : Below w.heap.size w w5 := below_after (((Below.refl _ _).alloc (Nat.le_refl _) _).alloc (by simp) _) hb (by simp; omega)
  have hz : w.heap.size + 2 ≤ w5.heap.size := (by have := hb.size; simp at this; omega)
  have hc0 : w5.cell? ⟨w.heap.size, 0, none⟩ = some (.int .i64 z) := cell_after hb (by simp [go_sem])
  have hc1 : w5.cell? ⟨w.heap.size, 1, none⟩ = some (.slice A 0 c) := cell_after hb (by simp [go_sem])
  have hr0 : w5.cell? ⟨w.heap.size + 1, 0, none⟩ = some (.int .i64 0) := cell_after hb (by simp [go_sem])
  have hr1 : w5.cell? ⟨w.heap.size + 1, 1, none⟩ = some (.slice none 0 0) := cell_after hb (by simp [go_sem])
  have hg0 : w5.frozen? ⟨w.heap.size + 1, 0, none⟩ = false := (hb.frozen (by simp)).trans (by simp [go_sem])
  have hg1 : w5.frozen? ⟨w.heap.size + 1, 1, none⟩ = false := (hb.frozen (by simp)).trans (by simp [go_sem])
  clear hb
  go_wp2_with fail
  obtain ⟨k0, k1⟩ := out_two (.int .i64 z) (.slice A 0 c) hr0 hr1
  have b6 : Below w.heap.size w ((w5.setCell ⟨w.heap.size + 1, 0, none⟩ (.int .i64 z)).setCell ⟨w.heap.size + 1, 1, none⟩ (.slice A 0 c)) := (b5.setCell (by show _ ≤ w.heap.size + 1; omega) _).setCell (by show _ ≤ w.heap.size + 1; omega) _
  generalize ((w5.setCell ⟨w.heap.size + 1, 0, none⟩ (.int .i64 z)).setCell ⟨w.heap.size + 1, 1, none⟩ (.slice A 0 c)) = w6 at k0 k1 b6 ⊢
  refine bodyPost_ret (v := .tuple #[.agg #[.int .i64 z, .slice A 0 c], .slice none 0 0, .int .i64 0, .int .i64 0, .int .i64 9]) (by simp [results, Try.results14, go_sem, k0, k1]) rfl ?_
  exact ⟨A, c, none, 0, rfl, H.out.after b6, GotS.none_ _, b6⟩

set_option maxHeartbeats 1000000 in
theorem seal_some (z : Int) (A : Option Addr) (n c : Nat) (xs : List Smp) (y : Smp) (w : World) (h : GotS w n xs A c) (ok : Ok z xs) (hy : xs[n - 1]? = some y) (hn : 0 < n) :
    Calls Try.prog 14 #[.agg #[.int .i64 z, .slice A n c]] w (SealS w (y.t + 1) [] xs z (y.t + 1) 0) := by
  have m1 : n ≤ 64 := by rw [← h.rd.1]; exact ok.len
  have z0 := ok.z0
  have z1 := ok.z1
  obtain ⟨b2, o2, y', hA, hb2, hy', r2⟩ := h.rd.at_ (n - 1) (by omega)
  obtain rfl : y = y' := by rw [hy] at hy'; exact Option.some.inj hy'
  subst hA
  have y0 : z ≤ y.t := ok.lo y (List.mem_of_getElem? hy)
  have y1 : y.t < 1099511627776 := ok.hi y (List.mem_of_getElem? hy)
  have L := Lib.hid h.rd.1
  have H := Lib.hid h
  have OK := Lib.hid ok
  have R2 := Lib.hid r2
  clear h ok hy hy' r2
  go_enter Try.func14, Try.ntmps14
  go_wp2_with fail
  refine (may_any _ _ _ _ xs _ (H.out.rd.after (((Below.refl _ _).alloc (Nat.le_refl _) _).alloc (by simp) _)) OK.out).mono ?_
  rintro e w5 ⟨rfl, hb⟩
  have b5 : Below w.heap.size w w5 := below_after (((Below.refl _ _).alloc (Nat.le_refl _) _).alloc (by simp) _) hb (by simp; omega)
  have hz : w.heap.size + 2 ≤ w5.heap.size := (by have := hb.size; simp at this; omega)
  have hc0 : w5.cell? ⟨w.heap.size, 0, none⟩ = some (.int .i64 z) := cell_after hb (by simp [go_sem])
  have hc1 : w5.cell? ⟨w.heap.size, 1, none⟩ = some (.slice (some ⟨b2, o2, none⟩) n c) := cell_after hb (by simp [go_sem])
  have hr0 : w5.cell? ⟨w.heap.size + 1, 0, none⟩ = some (.int .i64 0) := cell_after hb (by simp [go_sem])
  have hr1 : w5.cell? ⟨w.heap.size + 1, 1, none⟩ = some (.slice none 0 0) := cell_after hb (by simp [go_sem])
  have hg0 : w5.frozen? ⟨w.heap.size + 1, 0, none⟩ = false := (hb.frozen (by simp)).trans (by simp [go_sem])
  have hg1 : w5.frozen? ⟨w.heap.size + 1, 1, none⟩ = false := (hb.frozen (by simp)).trans (by simp [go_sem])
  clear hb
  have hp : w5.cell? ⟨b2, o2 + (n - 1) * 2, none⟩ = some (.int .i64 y.t) := (b5.cell hb2).trans R2.out.c0
  have e0 : ((n : Int) == 0) = false := by simp; omega
  have e1 : IntKind.i64.wrap ((n : Int) - 1) = (n : Int) - 1 := IntWalk.i64_in _ (by omega)
  have e2 : ((n : Int) - 1).toNat = n - 1 := by omega
  have e3 : 0 ≤ (n : Int) - 1 := by omega
  have e4 : (n : Int) - 1 < (n : Int) := by omega
  have e8 : (1 : Int) ≤ (n : Int) := by omega
  have e9 : 1 ≤ n := by omega
  have e10 : IntKind.i64.wrap (y.t + 1) = y.t + 1 := IntWalk.i64_in _ (by omega)
  go_wp2_with fail
  go_quiet (fail)
  have hc0 : (w5.drewN nq).cell? ⟨w.heap.size, 0, none⟩ = some (.int .i64 z) := by simpa using hc0
  have hc1 : (w5.drewN nq).cell? ⟨w.heap.size, 1, none⟩ = some (.slice (some ⟨b2, o2, none⟩) n c) := by simpa using hc1
  have hr0 : (w5.drewN nq).cell? ⟨w.heap.size + 1, 0, none⟩ = some (.int .i64 0) := by simpa using hr0
  have hr1 : (w5.drewN nq).cell? ⟨w.heap.size + 1, 1, none⟩ = some (.slice none 0 0) := by simpa using hr1
  have hg0 : (w5.drewN nq).frozen? ⟨w.heap.size + 1, 0, none⟩ = false := by simpa using hg0
  have hg1 : (w5.drewN nq).frozen? ⟨w.heap.size + 1, 1, none⟩ = false := by simpa using hg1
  have b5 := below_drewN b5 nq
  have hz : w.heap.size + 2 ≤ (w5.drewN nq).heap.size := by simpa using hz
  generalize w5.drewN nq = w6 at hc0 hc1 hr0 hr1 hg0 hg1 b5 hz ⊢
  clear hp
  go_wp2_with fail
  refine (clone_any _ _ _ xs _ (H.out.rd.after b5) H.out.nil (by omega)).mono ?_
  rintro e w7 ⟨v7, rfl, own7, hb7⟩
  obtain ⟨A7, c7, rfl, q1, q2, q3⟩ := own7.form
  have hr0 := cell_after hb7 hr0
  have hr1 := cell_after hb7 hr1
  have hg0 := (hb7.frozen (by show w.heap.size + 1 < _; omega)).trans hg0
  have hg1 := (hb7.frozen (by show w.heap.size + 1 < _; omega)).trans hg1
  have b7 := below_after b5 hb7 b5.size
  have FM := Lib.hid (And.intro q1 (And.intro q2 q3))
  clear q1 q2 q3 hc0 hc1 hb7
  go_wp2
  obtain ⟨k0, k1⟩ := out_two (.int .i64 (y.t + 1)) (.slice none 0 0) hr0 hr1
  have b8 : Below w.heap.size w ((w7.setCell ⟨w.heap.size + 1, 0, none⟩ (.int .i64 (y.t + 1))).setCell ⟨w.heap.size + 1, 1, none⟩ (.slice none 0 0)) := (b7.setCell (by show _ ≤ w.heap.size + 1; omega) _).setCell (by show _ ≤ w.heap.size + 1; omega) _
  have own8 : Own ((w7.setCell ⟨w.heap.size + 1, 0, none⟩ (.int .i64 (y.t + 1))).setCell ⟨w.heap.size + 1, 1, none⟩ (.slice none 0 0)) w6.heap.size 30 2 (.slice A7 n c7) n (xs.flatMap Smp.enc) :=
    own7.keep fun g hg => by
      have := (own7.block g hg).1
      rw [heap_setCell_other _ _ _ _ (fun e => by simp at e; omega), heap_setCell_other _ _ _ _ (fun e => by simp at e; omega)]
  generalize ((w7.setCell ⟨w.heap.size + 1, 0, none⟩ (.int .i64 (y.t + 1))).setCell ⟨w.heap.size + 1, 1, none⟩ (.slice none 0 0)) = w8 at k0 k1 b8 own8 ⊢
  refine bodyPost_ret (v := .tuple #[.agg #[.int .i64 (y.t + 1), .slice none 0 0], .slice A7 n c7, .int .i64 z, .int .i64 (y.t + 1), .int .i64 0]) (by simp [results, Try.results14, go_sem, k0, k1]) rfl ?_
  exact ⟨none, 0, A7, c7, by rw [L.out]; rfl, GotS.none_ _, by rw [L.out]; exact GotS.of_own L.out own8 FM.out, b8⟩

end Go.Proofs.Ytjimaanleamgjaa
