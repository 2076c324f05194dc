import Derived.Test.YtpanjdncjdellaaT5
namespace Go.Proofs.Ytpanjdncjdellaa
open Go.RowKit

set_option maxHeartbeats 4000000 in
set_option maxRecDepth 100000 in
/-- Out where the timer is due: the one that 'told' asks for. -/
theorem out_again (B g : Nat) (b : List Value) (w : World) (h : Inv w B g ⟨[b], 0, 1, 2, 2, 1⟩) :
    Calls Try.prog 8 #[.pointer (some ⟨g, 0, none⟩), .int .i64 2] w fun e w' => ∃ A c, e = .returned (.slice A 1 c) ∧ Own w' w.heap.size 2 1 (.slice A 1 c) 1 [.int .i64 1] ∧ Inv w' B g ⟨[b], 0, 1, 4, 6, 2⟩ ∧ w.grownBy w' (some g) := by
  have hlt := h.lt
  have hge := h.ge
  obtain ⟨i0, hi, hz0, hz1, hz2⟩ := info_parts int_info
  obtain ⟨A, c, _, _, _, _, c0, c1, c2, c3, c4, c5, fz⟩ := h.open_
  have F5 := fz 5
  have I := Lib.hid (h.now_ 2)
  have G := Lib.hid (grown_set (grown_refl w (some g)) 5 (.int .i64 2))
  clear h fz
  simp only [] at c0 c1 c2 c3 c4 c5
  go_enter Try.func8, Try.ntmps8
  go_wp2_with fail
  go_step3
  go_wp2_with fail
  generalize w.setCell ⟨g, 5, none⟩ (.int .i64 2) = w1 at I G ⊢
  clear c0 c1 c2 c3 c4 c5 F5
  obtain ⟨A1, cl1, _, _, _, _, c0, c1, c2, c3, c4, c5, fz⟩ := I.out.open_
  clear fz
  simp only [] at c0 c1 c2 c3 c4 c5
  go_quiet (fail)
  have I2 := Lib.hid (I.out.drewN nq)
  have G2 := Lib.hid (grown_of_drewN G.out nq)
  clear I G c0 c1 c2 c3 c4 c5
  generalize w1.drewN nq = w2 at I2 G2 ⊢
  have I := I2
  have G := G2
  clear I2 G2
  obtain ⟨A2, cl2, _, _, _, _, c0, c1, c2, c3, c4, c5, fz⟩ := I.out.open_
  have F3 := fz 3
  have F4 := fz 4
  clear fz
  simp only [] at c0 c1 c2 c3 c4 c5

  have OS := Lib.hid ((Own.nil_ w2 w.heap.size 2 1).alloc (.cells #[.int .i64 1] 2))
  have IS := Lib.hid (I.out.below ((Below.refl _ _).alloc (Nat.le_refl _) (.cells #[.int .i64 1] 2)))
  have GS := Lib.hid (grown_trans G.out (grown_of_below ((Below.refl _ _).alloc (Nat.le_refl _) (.cells #[.int .i64 1] 2)) _))
  have hl2 := I.out.lt
  go_wp2_with (
    at_builtin
    go_must (refine wpList_append_rd _ rfl (.tmp 33) (.tmp 39) 27 rfl w.heap.size 2 i0 _ 1 8 Try.underlying27 hi hz0 hz1 hz2 rfl (by decide) (.slice none 0 0) 0 [] rfl OS.out _ _ 1 1 [.int .i64 1] rfl (Rd.newE rfl rfl rfl rfl) (fun h => by cases h) (by simp; rfl) (by simp only [maxLen]; omega) (by omega) GS.out.size ?_)
    intro v1 w3 hown1 hg1 hat1
    obtain ⟨AA, c3v, rfl, _, _, _⟩ := hown1.form
    have I3 := Lib.hid (IS.out.other OS.out hg1)
    have G3 := Lib.hid (grown_new GS.out hg1 (fun j hj => (OS.out.block j hj).1))
    have O3 := Lib.hid hown1
    clear I G c0 c1 c2 c3 c4 c5 IS GS OS hg1 hat1 hown1
    have I := I3
    have G := G3
    have O := O3
    clear I3 G3 O3
    obtain ⟨A3, cl3, _, _, _, _, c0, c1, c2, c3, c4, c5, fz⟩ := I.out.open_
    have F3 := fz 3
    have F4 := fz 4
    clear fz
    simp only [] at c0 c1 c2 c3 c4 c5)
  have I4 := Lib.hid (I.out.wait_ 4)
  have G4 := Lib.hid (grown_set G.out 3 (.int .i64 4))
  have O4 := Lib.hid (I.out.own O.out (by decide) (grown_set (grown_refl _ _) 3 (.int .i64 4)))
  clear I G O c0 c1 c2 c3 c4 c5 F3 F4
  generalize w3.setCell ⟨g, 3, none⟩ (.int .i64 4) = w4 at I4 G4 O4 ⊢
  have I := I4
  have G := G4
  have O := O4
  clear I4 G4 O4
  obtain ⟨A4, cl4, _, _, _, _, c0, c1, c2, c3, c4, c5, fz⟩ := I.out.open_
  have F3 := fz 3
  have F4 := fz 4
  clear fz
  simp only [] at c0 c1 c2 c3 c4 c5
  go_still_tail 12, (by kernel_rfl)
  change wpList _ _ _ _ _ w4.drew
  go_wp2_with fail
  have I5 := Lib.hid ((I.out.due_ 6).drew)
  have G5 := Lib.hid (grown_of_drew (grown_set G.out 4 (.int .i64 6)))
  have O5 := Lib.hid ((I.out.own O.out (by decide) (grown_set (grown_refl _ _) 4 (.int .i64 6))).drew)
  clear I G O c0 c1 c2 c3 c4 c5 F3 F4
  generalize (w4.setCell ⟨g, 4, none⟩ (.int .i64 6)).drew = w5 at I5 G5 O5 ⊢
  have I := I5
  have G := G5
  have O := O5
  clear I5 G5 O5
  obtain ⟨A5, cl5, _, _, _, _, c0, c1, c2, c3, c4, c5, fz⟩ := I.out.open_
  have F3 := fz 3
  have F4 := fz 4
  clear fz
  simp only [] at c0 c1 c2 c3 c4 c5
  
  go_step3
  go_wp2_with fail
  go_loopg [5] 0 (fun gh s5 wr => gh = 0 ∧ s5 = .slice AA 1 c3v ∧ wr = w5)
  case atStart => exact ⟨rfl, rfl, rfl⟩
  case round =>
    obtain ⟨_, rfl, rfl⟩ := hrel
    go_wp2_with fail
    go_quiet (fail)
    go_wp2_with fail
    have I6 := Lib.hid (I.out.drewN nq)
    have G6 := Lib.hid (grown_of_drewN G.out nq)
    have O6 := Lib.hid (O.out.drewN nq)
    clear I G O c0 c1 c2 c3 c4 c5 F3 F4
    generalize wr.drewN nq = w6 at I6 G6 O6 ⊢
    have I := I6
    have G := G6
    have O := O6
    clear I6 G6 O6
    obtain ⟨A6, cl6, _, _, _, _, c0, c1, c2, c3, c4, c5, fz⟩ := I.out.open_
    have F3 := fz 3
    have F4 := fz 4
    clear fz
    simp only [] at c0 c1 c2 c3 c4 c5
  
    go_quiet (fail)
    go_wp2
    try rw [Exit.noGoto_ret]
    go_ret
    exact ⟨_, _, rfl, by simpa using O.out.drewN nq, I.out.drewN nq, grown_of_drewN G.out nq⟩
end Go.Proofs.Ytpanjdncjdellaa
