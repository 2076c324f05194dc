import Derived.Test.YtpanjdncjdellaaT4
import Derived.Deep.CutRange
import Derived.Deep.DeepCutAuto
import Derived.Deep.CutBlock
namespace Go.Proofs.Ytpanjdncjdellaa
open Go.RowKit

theorem Own.drewN {w : World} {base e k n : Nat} {v : Value} {xs : List Value} (h : Own w base e k v n xs) (q : Nat) : Own (w.drewN q) base e k v n xs := h
/-- The numbers a + 1, .., a + n. -/
def nums (a : Int) (n : Nat) : List Value := (List.range n).map fun (i : Nat) => Value.int .i64 (a + 1 + (i : Int))
theorem nums_succ (a : Int) (n : Nat) : nums a n ++ [.int .i64 (a + n + 1)] = nums a (n + 1) := by
  unfold nums
  rw [List.range_succ, List.map_append, List.map_cons, List.map_nil, show a + 1 + (n : Int) = a + n + 1 by omega]
theorem nums_len (a : Int) (n : Nat) : (nums a n).length = n := by simp [nums]

/-- Up to which all is sent behind Out. -/
def St.top (s : St) : Int := max s.sent (min (s.acked + s.l.length) (s.acked + 8))
/-- Out where the timer is not due. -/
def St.out (s : St) (t : Int) : St := ⟨s.l, s.acked, s.top, s.wait, if s.due = -1 ∧ s.acked < s.top then t + s.wait else s.due, t⟩

set_option maxHeartbeats 4000000 in
set_option maxRecDepth 100000 in
theorem out_fresh (B g : Nat) (s : St) (t : Int) (w : World) (h : Inv w B g s) (hd : s.due = -1 ∨ t < s.due) (hnt : s.now ≤ t) (hn0 : 0 ≤ s.now) (ht : t ≤ 1000000000) (ha : 0 ≤ s.acked) (hs : s.acked ≤ s.sent) (hs2 : s.sent ≤ 1000000000) (hw0 : 0 ≤ s.wait) (hw1 : s.wait ≤ 16) :
    Calls Try.prog 8 #[.pointer (some ⟨g, 0, none⟩), .int .i64 t] w fun e w' => ∃ A m c, e = .returned (.slice A m c) ∧ (m : Int) = s.top - s.sent ∧ Own w' w.heap.size 2 1 (.slice A m c) m (nums s.sent m) ∧ Inv w' B g (s.out t) ∧ w.grownBy w' (some g) := by
  have hlt := h.lt
  have hge := h.ge
  have hle := h.le
  obtain ⟨A, c, _, _, _, _, c0, c1, c2, c3, c4, c5, fz⟩ := h.open_
  have F5 := fz 5
  have I := Lib.hid (h.now_ t)
  have G := Lib.hid (grown_set (grown_refl w (some g)) 5 (.int .i64 t))
  have hmx : (s.now < t) = True ∨ s.now = t := by
    by_cases hx : s.now < t
    · exact .inl (by simp [hx])
    · exact .inr (by omega)
  obtain ⟨i0, hi, hz0, hz1, hz2⟩ := info_parts int_info
  clear h fz
  go_enter Try.func8, Try.ntmps8
  go_wp2_with fail
  go_step3
  go_upto_region 3 with fail
  go_cut [] (fun wx => wx = w.setCell ⟨g, 5, none⟩ (.int .i64 t))
  case first =>
    rcases hmx with hmx | hmx
    all_goals
      go_wp2_with fail
      go_meet
      exact rfl
  case rest =>
    obtain rfl := hcut
    generalize w.setCell ⟨g, 5, none⟩ (.int .i64 t) = w1 at I G ⊢
    clear c0 c1 c2 c3 c4 c5 F5 hmx
    go_upto_region 5 with fail
    go_cut [32] (fun s32 wx => s32 = .bool false ∧ Inv wx B g ⟨s.l, s.acked, s.sent, s.wait, s.due, t⟩ ∧ w.grownBy wx (some g))
    case first =>
      obtain ⟨A1, cl1, _, _, _, _, c0, c1, c2, c3, c4, c5, fz⟩ := I.out.open_
      clear fz
      rcases hd with hd | hd
      · rw [show (St.mk s.l s.acked s.sent s.wait s.due t).due = -1 from hd] at c4
        go_wp2_with fail
        go_quiet (fail)
        go_wp2_with fail
        go_meet
        exact ⟨rfl, I.out.drewN nq, grown_of_drewN G.out nq⟩
      · have hdn : (s.due != -1) = true := by simp; omega
        have hdt : decide (s.due ≤ t) = false := by simp; omega
        go_wp2_with fail
        go_quiet (fail)
        go_wp2_with fail
        go_meet
        exact ⟨rfl, I.out.drewN nq, grown_of_drewN G.out nq⟩
    case rest =>
      obtain ⟨rfl, i1, g1⟩ := hcut
      have I := Lib.hid i1
      have G := Lib.hid g1
      clear i1 g1
      go_upto_block 0 with go_step3
      go_cut [5] from 62 to 100 (fun s5 wx => ∃ A m c, s5 = .slice A m c ∧ (m : Int) = s.top - s.sent ∧ Own wx w.heap.size 2 1 (.slice A m c) m (nums s.sent m) ∧ Inv wx B g ⟨s.l, s.acked, s.top, s.wait, s.due, t⟩ ∧ w.grownBy wx (some g))
      case first =>
        go_wp2_with fail
        have hwa : IntKind.i64.wrap (s.acked + (s.l.length : Int)) = s.acked + (s.l.length : Int) := i64_id (by omega) (by omega)
        have hwb : IntKind.i64.wrap (s.acked + 8) = s.acked + 8 := i64_id (by omega) (by omega)
        go_loopg [5] (s.top - s.sent).toNat (fun gh s5 wr => ∃ (q : Nat) (A : Option Addr) (c : Nat), s5 = .slice A q c ∧ s.sent + (q : Int) ≤ s.top ∧ (s.top - s.sent).toNat - q ≤ gh ∧ Own wr w.heap.size 2 1 (.slice A q c) q (nums s.sent q) ∧ Inv wr B g ⟨s.l, s.acked, s.sent + (q : Int), s.wait, s.due, t⟩ ∧ w.grownBy wr (some g))
        case atStart => exact ⟨0, none, 0, rfl, by unfold St.top; omega, by omega, Own.nil_ _ _ _ _, by simpa using I.out, G.out⟩
        case round =>
          obtain ⟨q, A, c, rfl, hq, hgh, o, i1, g2⟩ := hrel
          clear I G
          have I := Lib.hid i1
          have G := Lib.hid g2
          have O := Lib.hid o
          clear i1 g2 o
          obtain ⟨A1, cl1, _, _, _, _, c0, c1, c2, c3, c4, c5, fz⟩ := I.out.open_
          clear fz
          have hwc : IntKind.i64.wrap (s.sent + (q : Int) + 1) = s.sent + (q : Int) + 1 := i64_id (by omega) (by unfold St.top at hq; omega)
          by_cases h1 : s.sent + (q : Int) < s.acked + (s.l.length : Int)
          · have hd1 : decide (s.sent + (q : Int) < s.acked + (s.l.length : Int)) = true := by simpa using h1
            go_wp2_with fail
            go_quiet (fail)
            have I2 := Lib.hid (I.out.drewN nq)
            have G2 := Lib.hid (grown_of_drewN G.out nq)
            have O2 := Lib.hid (O.out.drewN nq)
            clear I G c0 c1 c2 c3 c4 c5 O
            generalize wr.drewN nq = w2 at I2 G2 O2 ⊢
            have I := I2
            have G := G2
            have O := O2
            clear I2 G2 O2
            obtain ⟨A2, cl2, _, _, _, _, c0, c1, c2, c3, c4, c5, fz⟩ := I.out.open_
            have F2 := fz 2
            have F4 := fz 4
            clear fz
            by_cases h2 : s.acked + 8 ≤ s.sent + (q : Int)
            · have hd2 : decide (s.acked + 8 ≤ s.sent + (q : Int)) = true := by simpa using h2
              go_wp2_with fail
              go_quiet (fail)
              go_wp2_with fail
              have I3 := Lib.hid (I.out.drewN nq)
              have G3 := Lib.hid (grown_of_drewN G.out nq)
              have O3 := Lib.hid (O.out.drewN nq)
              clear I G c0 c1 c2 c3 c4 c5 O
              generalize w2.drewN nq = w3 at I3 G3 O3 ⊢
              have I := I3
              have G := G3
              have O := O3
              clear I3 G3 O3
              obtain ⟨A3, cl3, _, _, _, _, c0, c1, c2, c3, c4, c5, fz⟩ := I.out.open_
              have F2 := fz 2
              have F4 := fz 4
              clear fz
              go_meet
              exact ⟨A, q, c, rfl, by unfold St.top at *; omega, O.out, by rw [show s.top = s.sent + (q : Int) by unfold St.top at *; omega]; exact I.out, G.out⟩
            · have hd2 : decide (s.acked + 8 ≤ s.sent + (q : Int)) = false := by simpa using h2
              go_wp2_with fail
              go_quiet (fail)
              have I3 := Lib.hid (I.out.drewN nq)
              have G3 := Lib.hid (grown_of_drewN G.out nq)
              have O3 := Lib.hid (O.out.drewN nq)
              clear I G c0 c1 c2 c3 c4 c5 O
              generalize w2.drewN nq = w3 at I3 G3 O3 ⊢
              have I := I3
              have G := G3
              have O := O3
              clear I3 G3 O3
              obtain ⟨A3, cl3, _, _, _, _, c0, c1, c2, c3, c4, c5, fz⟩ := I.out.open_
              have F2 := fz 2
              have F4 := fz 4
              clear fz
              have OS := Lib.hid ((I.out.own O.out (by decide) (grown_set (grown_refl w3 _) 2 (.int .i64 (s.sent + (q : Int) + 1)))).alloc (.cells #[.int .i64 (s.sent + (q : Int) + 1)] 2))
              have IS := Lib.hid ((I.out.sent_ (s.sent + (q : Int) + 1)).below ((Below.refl _ _).alloc (Nat.le_refl _) (.cells #[.int .i64 (s.sent + (q : Int) + 1)] 2)))
              have GS := Lib.hid (grown_trans (grown_set G.out 2 (.int .i64 (s.sent + (q : Int) + 1))) (grown_of_below ((Below.refl _ _).alloc (Nat.le_refl _) (.cells #[.int .i64 (s.sent + (q : Int) + 1)] 2)) _))
              have hq8 : q ≤ 8 := by unfold St.top at hq; omega
              have hq1 : s.sent + (q : Int) + 1 ≤ s.top := by unfold St.top; omega
              go_wp2_with (at_builtin; go_must (refine wpList_append_rd _ rfl (.tmp 94) (.tmp 99) 27 rfl w.heap.size 2 i0 _ 1 8 Try.underlying27 hi hz0 hz1 hz2 rfl (by decide) (.slice A q c) q (nums s.sent q) rfl OS.out _ _ 1 1 [.int .i64 (s.sent + (q : Int) + 1)] rfl (Rd.newE (World.size_setCell ..).symm rfl rfl rfl) (fun h => by cases h) (by simp; rfl) (by simp only [maxLen]; omega) (by omega) GS.out.size ?_); intro v1 w4 hown1 hg1 hat1)
              obtain ⟨A4, c4v, rfl, _, _, _⟩ := hown1.form
              rw [nums_succ] at hown1
              go_roundg ((s.top - s.sent).toNat - (q + 1))
              case measure => omega
              case rel =>
                have e : s.sent + ((q + 1 : Nat) : Int) = s.sent + (q : Int) + 1 := by omega
                exact ⟨q + 1, A4, c4v, rfl, by omega, by omega, hown1, by rw [e]; exact IS.out.other OS.out hg1, grown_new GS.out hg1 (fun j hj => (OS.out.block j hj).1)⟩
          · have hd1 : decide (s.sent + (q : Int) < s.acked + (s.l.length : Int)) = false := by simpa using h1
            go_wp2_with fail
            go_quiet (fail)
            go_wp2_with fail
            have I2 := Lib.hid (I.out.drewN nq)
            have G2 := Lib.hid (grown_of_drewN G.out nq)
            have O2 := Lib.hid (O.out.drewN nq)
            clear I G c0 c1 c2 c3 c4 c5 O
            generalize wr.drewN nq = w2 at I2 G2 O2 ⊢
            have I := I2
            have G := G2
            have O := O2
            clear I2 G2 O2
            obtain ⟨A2, cl2, _, _, _, _, c0, c1, c2, c3, c4, c5, fz⟩ := I.out.open_
            have F2 := fz 2
            have F4 := fz 4
            clear fz
            go_meet
            exact ⟨A, q, c, rfl, by unfold St.top at *; omega, O.out, by rw [show s.top = s.sent + (q : Int) by unfold St.top at *; omega]; exact I.out, G.out⟩
      case rest =>
        obtain ⟨A, m, c, rfl, hm, o, i1, g1⟩ := hcut
        clear I G
        have I := Lib.hid i1
        have G := Lib.hid g1
        have O := Lib.hid o
        clear i1 g1 o
        obtain ⟨A1, cl1, _, _, _, _, c0, c1, c2, c3, c4, c5, fz⟩ := I.out.open_
        clear fz
        have hwd : IntKind.i64.wrap (t + s.wait) = t + s.wait := i64_id (by omega) (by omega)
        by_cases hdd : s.due = -1
        · rw [show (St.mk s.l s.acked s.top s.wait s.due t).due = -1 from hdd] at c4
          by_cases h2 : s.acked < s.top
          · have hd2 : decide (s.acked < s.top) = true := by simpa using h2
            go_wp2_with fail
            go_quiet (fail)
            have I5 := Lib.hid (I.out.drewN nq)
            have G5 := Lib.hid (grown_of_drewN G.out nq)
            have O5 := Lib.hid (O.out.drewN nq)
            clear I G c0 c1 c2 c3 c4 c5 O
            generalize wc.drewN nq = w5 at I5 G5 O5 ⊢
            have I := I5
            have G := G5
            have O := O5
            clear I5 G5 O5
            obtain ⟨A5, cl5, _, _, _, _, c0, c1, c2, c3, c4, c5, fz⟩ := I.out.open_
            have F2 := fz 2
            have F4 := fz 4
            clear fz
            go_wp2_with fail
            go_still_tail 12, (by kernel_rfl)
            change wpList _ _ _ _ _ w5.drew
            go_wp2
            try rw [Exit.noGoto_ret]
            go_ret
            refine ⟨A, m, c, rfl, hm, I.out.own O.out (by decide) (grown_of_drew (grown_set (grown_refl _ _) 4 _)), ?_, grown_of_drew (grown_set G.out 4 _)⟩
            have := (I.out.due_ (t + s.wait)).drew
            simp only [St.out, if_pos (And.intro hdd h2)]
            exact this
          · have hd2 : decide (s.acked < s.top) = false := by simpa using h2
            go_wp2_with fail
            go_quiet (fail)
            go_wp2
            try rw [Exit.noGoto_ret]
            go_ret
            refine ⟨A, m, c, rfl, hm, O.out.drewN _, ?_, grown_of_drewN G.out _⟩
            have := I.out.drewN nq
            simp only [St.out, if_neg (fun h : s.due = -1 ∧ s.acked < s.top => Int.not_lt.2 h2 h.2)]
            exact this
        · have hdn : ((s.due : Int) == -1) = false := by rw [beq_eq_false_iff_ne]; exact hdd
          go_wp2_with fail
          go_quiet (fail)
          go_wp2
          try rw [Exit.noGoto_ret]
          go_ret
          refine ⟨A, m, c, rfl, hm, O.out.drewN _, ?_, grown_of_drewN G.out _⟩
          have := I.out.drewN nq
          simp only [St.out, if_neg (fun h => hdd (And.left h))]
          exact this
end Go.Proofs.Ytpanjdncjdellaa
