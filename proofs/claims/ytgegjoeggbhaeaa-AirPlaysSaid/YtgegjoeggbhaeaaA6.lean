import Derived.Test.YtgegjoeggbhaeaaA5
namespace Go.Proofs.Ytgegjoeggbhaeaa
open Go.RowKit Go.Conc

theorem nums_take_succ (l : List Nat) (i : Nat) (h : i < l.length) : nums (l.take (i + 1)) = nums (l.take i) ++ [.int .i64 (l[i] : Nat)] := by
  rw [List.take_succ_eq_append_getElem h]
  simp only [nums, List.map_append, List.map_cons, List.map_nil]

set_option maxHeartbeats 4000000 in
set_option maxRecDepth 100000 in
theorem look_any {f : FuncId} {cap : Value} {keep : Nat → Bool} {J : World → List Nat → (Nat → Prop) → Prop} (A : Asks f cap keep J) (hfn : f = 23 ∨ f = 24) (g h : Nat) (v : Value) (fly : List Nat) (F : Nat → Prop) (w : World)
    (top : w.heap[g]? = some (.cells #[v, .chan (some h)] 52 (0, 0))) (ch : ∃ n r, w.heap[h]? = some (.chan 200 (nums fly).toArray false n r false)) (hl : fly.length ≤ 200) (hJ : J w [] F) (Fg : ¬ F g) (Fh : ¬ F h) (gh : g ≠ h) :
    Calls Try.prog 22 #[.pointer (some ⟨g, 0, none⟩), .func (.func f) #[] #[cap]] w fun e w' => e = .returned (.tuple #[]) ∧ ∃ lv, In1 w w' g h v J F fly (fly.filter keep) (fly.filter keep) lv := by
  have hg : g < w.heap.size := (Array.getElem?_eq_some_iff.1 top).1
  have hh : h < w.heap.size := by obtain ⟨_, _, e⟩ := ch; exact (Array.getElem?_eq_some_iff.1 e).1
  have I0 := Lib.hid (In1.first A top ch hJ)
  clear top ch hJ
  refine calls_of_wpN Try.func22 rfl ?_
  simp only [Try.ntmps22, List.size_toArray, List.length_cons, List.length_nil, Nat.reduceAdd, Nat.reduceSub, Array.replicate_succ,
     Array.replicate_zero, List.push_toArray, List.append_toArray, List.nil_append, List.cons_append]
  refine wpN_scope ?_
  refine wpN_seq (wpN_of_wp ?_)
  go_wp2
  refine wpN_seq (wpN_of_wp (wp_label ?_))
  change wpN _ _ _ _ _
  refine wpN_seq ?_
  refine wpN_block ?_
  refine wpN_loop (fun a w' m => ∃ (seen rest : List Nat) (lv x5 x8 x9 x10 x11 x12 x13 x14 x15 x16 x17 x18 x19 x20 x21 x22 : Value), seen ++ rest = fly ∧ m = rest.length ∧ In1 w w' g h v J F seen (seen.filter keep) rest lv ∧
    a = ⟨#[.pointer (some ⟨g, 0, none⟩), .func (.func f) #[] #[cap], undef, undef, lv, x5, undef, undef, x8, x9, x10, x11, x12, x13, x14, x15, x16, x17, x18, x19, x20, x21, x22, undef, undef, undef, undef, undef, undef, undef, undef, undef, undef, undef, undef], []⟩) fly.length ?_ ?_
  · exact ⟨[], fly, _, _, _, _, _, _, _, _, _, _, _, _, _, _, _, _, _, rfl, rfl, I0.out, rfl⟩
  · rintro m a w1 ⟨seen, rest, lv, x5, x8, x9, x10, x11, x12, x13, x14, x15, x16, x17, x18, x19, x20, x21, x22, hsr, rfl, i1, rfl⟩
    have I1 := Lib.hid i1
    obtain ⟨Al, cl, rfl, hl1, hl2, hl3⟩ := i1.row.form
    have c1 := i1.c1
    obtain ⟨n1, r1, hch⟩ := i1.ch
    have HCH := Lib.hid hch
    clear i1 hch
    refine wpN_block ?_
    refine wpN_seq (wpN_of_wp ?_)
    go_wp2
    refine wpN_seq ?_
    cases rest with
    | nil =>
      refine wpN_region_comm (n := 2) rfl rfl (comm_recv_none rfl rfl (c := h) (z := .int .i64 0) (by simp [go_sem, execOp, rcase, Act.eval]) (by simpa [nums] using HCH.out)) ?_
      simp only [List.drop_succ_cons, List.drop_zero, Act.put, List.setIfInBounds_toArray, List.set_cons_zero, List.set_cons_succ]
      go_wp2
      obtain rfl : seen = fly := by simpa using hsr
      have hkl : (List.filter keep seen).length ≤ seen.length := List.length_filter_le _ _
      refine wpN_of_wp ?_
      go_wp2
      refine wpN_seq (wpN_of_wp ?_)
      go_wp2
      refine wpN_block ?_
      refine wpN_loop (fun a w' m => ∃ (i : Nat) (x6 x7 x26 x27 x28 x29 x30 x31 x32 x33 x34 : Value), i ≤ (List.filter keep seen).length ∧ m = (List.filter keep seen).length - i ∧ In1 w w' g h v J F seen (seen.filter keep) ((seen.filter keep).take i) (.slice Al (List.filter keep seen).length cl) ∧
        a = ⟨#[.pointer (some ⟨g, 0, none⟩), .func (.func f) #[] #[cap], undef, undef, .slice Al (List.filter keep seen).length cl, x5, x6, x7, .pointer (some ⟨g, 0, none⟩), .pointer (some ⟨g, 0, none⟩), .pointer (some ⟨g, 1, none⟩), .chan (some h),
          .tuple #[.int .i64 (-1), .bool false, .int .i64 0], .int .i64 (-1), .bool false, x15, x16, x17, x18, x19, x20, x21, x22, .slice Al (List.filter keep seen).length cl, .int .i64 (List.filter keep seen).length, .int .i64 i, x26, x27, x28, x29, x30, x31, x32, x33, x34], []⟩) (List.filter keep seen).length ?_ ?_
      · exact ⟨0, undef, undef, undef, undef, undef, undef, undef, undef, undef, undef, undef, Nat.zero_le _, rfl, by simpa using I1.out, rfl⟩
      · rintro m a w2 ⟨i, x6, x7, x26, x27, x28, x29, x30, x31, x32, x33, x34, hi, rfl, i2, rfl⟩
        have I2 := Lib.hid i2
        have c1' := i2.c1
        obtain ⟨n2, r2, hch2⟩ := i2.ch
        have HCH2 := Lib.hid hch2
        clear hch2 c1
        by_cases hik : i < (List.filter keep seen).length
        · obtain ⟨b, off, rfl, hb, hc⟩ := i2.row.rd.2 (by omega)
          have hcell : w2.cell? ⟨b, off + i, none⟩ = some (.int .i64 ((List.filter keep seen)[i] : Nat)) := hc i _ (by simp [nums, hik])
          clear hc i2
          refine wpN_seq (wpN_of_wp ?_)
          go_wp2
          refine wpN_seq (wpN_of_wp ?_)
          go_wp2
          refine wpN_seq (wpN_block ?_)
          refine wpN_seq (wpN_of_wp ?_)
          go_wp2
          refine wpN_region_steps fun b' hb' k cs => ?_
          apply Exists.intro
          apply Exists.intro
          refine And.symm ⟨?s, ?q⟩
          case s =>
            change Steps Try.prog (lone (b'.at _ (.inRegion _ [0, 1, 2, 3, 4, 5] :: k)) cs w2) _
            refine .head (step_value (w' := w2) (v := .pointer (some ⟨g, 0, none⟩)) rfl rfl (by simp [go_sem, execOp, Act.eval])) ?_
            refine .head (step_value (w' := w2) (v := .pointer (some ⟨g, 0, none⟩)) rfl rfl (by simp [go_sem, execOp, Act.eval, Act.put])) ?_
            refine .head (step_value (w' := w2) (v := .pointer (some ⟨g, 1, none⟩)) rfl rfl (by simp [go_sem, execOp, Act.eval, Act.put])) ?_
            refine .head (step_value (w' := w2) (v := .chan (some h)) rfl rfl (by simp [go_sem, execOp, Act.eval, Act.put, c1'])) ?_
            refine .head (step_value (w' := w2) (v := .int .i64 ((List.filter keep seen)[i] : Nat)) rfl rfl (by simp [go_sem, execOp, Act.eval, Act.put])) ?_
            refine .one ?_
            exact (step_send hb' (v := .int .i64 ((List.filter keep seen)[i] : Nat)) (z := .tuple #[]) rfl rfl (by simp [go_sem, execOp, scase, Act.eval, Act.put]) HCH2.out (by simp; omega))
          case q =>
            have CH : Hid (Chg w2 (w2.setChan h 200 ((nums ((List.filter keep seen).take i)).toArray.push (.int .i64 ((List.filter keep seen)[i] : Nat))) false (n2 + 1) r2 false) h (nums ((List.filter keep seen).take (i + 1)))) := Lib.hid (by
              have := chg_set w2 h ((nums ((List.filter keep seen).take i)).toArray.push (.int .i64 ((List.filter keep seen)[i] : Nat))) (n2 + 1) r2 (Nat.lt_of_lt_of_le hh I2.out.only.size)
              rw [nums_take_succ _ _ hik]
              simpa using this)
            have I3 := Lib.hid (I2.out.turn A CH.out gh Fh hh)
            generalize w2.setChan h 200 _ false (n2 + 1) r2 false = w3 at CH I3 ⊢
            simp only [Act.put, List.setIfInBounds_toArray, List.set_cons_zero, List.set_cons_succ]
            change wpN _ _ _ _ _
            refine wpN_of_wp ?_
            go_wp2
            exact ⟨_, by omega, i + 1, _, _, _, _, _, _, _, _, _, _, _, hik, rfl, I3.out, rfl⟩
        · obtain rfl : i = (List.filter keep seen).length := by omega
          clear i2
          refine wpN_seq (wpN_of_wp ?_)
          go_wp2
          refine wpN_seq (wpN_of_wp ?_)
          go_wp2
          simp only [Exit.noGoto]
          refine ⟨rfl, .tuple #[], by simp [results, Try.f22, go_sem], rfl, _, by simpa using I2.out⟩
    | cons n rest =>
      have CH : Hid (Chg w1 (w1.setChan h 200 ((nums (n :: rest)).toArray.extract 1 (nums (n :: rest)).toArray.size) false n1 (r1 + 1) false) h (nums rest)) := Lib.hid (by
        have := chg_set w1 h ((nums (n :: rest)).toArray.extract 1 (nums (n :: rest)).toArray.size) n1 (r1 + 1) (Nat.lt_of_lt_of_le hh I1.out.only.size)
        simpa [nums, List.take_of_length_le] using this)
      have I2 := Lib.hid (I1.out.turn A CH.out gh Fh hh)
      refine wpN_region_comm (n := 2) rfl rfl (comm_recv_buf rfl rfl (c := h) (z := .int .i64 0) (by simp [go_sem, execOp, rcase, Act.eval]) HCH.out (by simp)) ?_
      generalize w1.setChan h 200 _ false n1 (r1 + 1) false = w2 at CH I2 ⊢
      have hv : (nums (n :: rest)).toArray.getD 0 undef = .int .i64 n := by simp [nums]
      simp only [hv]
      clear I1 HCH c1 hv CH
      simp only [List.drop_succ_cons, List.drop_zero, Act.put, List.setIfInBounds_toArray, List.set_cons_zero, List.set_cons_succ]
      go_wp2
      refine wpN_of_wp ?_
      obtain ⟨F1, j1, j2, j3⟩ := I2.out.J
      have J2 := Lib.hid (And.intro j1 (And.intro j2 j3))
      have hsl : seen.length < 1000 := by have := congrArg List.length hsr; simp at this; omega
      have hkl : (List.filter keep seen).length ≤ seen.length := List.length_filter_le _ _
      have hsr' : (seen ++ [n]) ++ rest = fly := by simpa using hsr
      obtain ⟨i0, hi, hz0, hz1, hz2⟩ := info_parts int_info
      clear j1 j2 j3
      rcases hfn with rfl | rfl
      all_goals
        go_wp2_with fail
        refine (A.call n J2.out.1 hsl).mono ?_
        rintro e w3 ⟨rfl, F2, k1, k2, k3⟩
        have I3 := Lib.hid (I2.out.asked n J2.out.2.1 J2.out.2.2 k1 k2 k3 hg hh Fg Fh)
        clear k1 k2 k3 J2 I2
        cases hk : keep n with
        | false =>
          go_wp2
          refine ⟨_, Nat.lt_succ_self _, seen ++ [n], rest, _, _, _, _, _, _, _, _, _, _, _, _, _, _, _, _, _, hsr', rfl, ?_, rfl⟩
          rw [List.filter_append]
          simpa [hk] using I3.out
        | true =>
          go_wp2_with (at_builtin; refine wpList_append_rd _ rfl (.tmp 19) (.tmp 21) 46 rfl w.heap.size 3 i0 _ 1 8 Try.underlying46 hi hz0 hz1 hz2 rfl (by decide) (.slice Al (List.filter keep seen).length cl) (List.filter keep seen).length (nums (List.filter keep seen)) rfl (I3.out.row.alloc _) _ _ 1 1 [.int .i64 n] rfl (Rd.newE rfl rfl rfl rfl) (fun h => by cases h) (by simp; rfl) (by simp only [maxLen]; omega) (by omega) (by simp; have := I3.out.only.size; omega) ?_; intro v4 w4 hown4 hg4 hat4)
          have I4 := Lib.hid (I3.out.grow A hown4 hg4 (hat4.imp id fun e => by simpa using e) hg hh)
          clear hown4 hg4 hat4
          refine ⟨_, Nat.lt_succ_self _, seen ++ [n], rest, _, _, _, _, _, _, _, _, _, _, _, _, _, _, _, _, _, hsr', rfl, ?_, rfl⟩
          rw [List.filter_append]
          simpa [hk] using I4.out
end Go.Proofs.Ytgegjoeggbhaeaa
