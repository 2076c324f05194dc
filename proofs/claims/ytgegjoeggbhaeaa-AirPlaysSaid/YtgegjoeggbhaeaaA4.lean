import Derived.Test.YtgegjoeggbhaeaaA3
namespace Go.Proofs.Ytgegjoeggbhaeaa
open Go.RowKit Go.Conc

set_option maxHeartbeats 2000000 in
/-- Post, where 200 fly. -/
theorem post_full (B g h : Nat) (v : Value) (s : List Row) (to : Int) (A : Option Addr) (n c : Nat) (w : World) (air : Air w B g h v s) (t0 : 0 ≤ to) (t1 : to < 3) (hn : n ≤ 5000) (hf : (flyOf s).length = 200) :
    Calls Try.prog 8 #[.pointer (some ⟨g, 0, none⟩), .int .i64 to, .slice A n c] w fun e w' => e = .returned (.tuple #[.int .i64 (-1), .int .i64 8]) ∧ w' = w := by
  obtain ⟨Av, cv, rfl, v1, v2, v3⟩ := air.form
  have c0 := air.c0
  have c1 := air.c1
  obtain ⟨n1, r, hch⟩ := air.ch
  have HCH := Lib.hid hch
  clear hch air v1 v2 v3
  refine calls_of_wpN Try.func8 rfl ?_
  simp only [Try.ntmps8, List.size_toArray, List.length_cons, List.length_nil, Nat.reduceAdd, Nat.reduceSub, Array.replicate_succ,
     Array.replicate_zero, List.push_toArray, List.append_toArray, List.nil_append, List.cons_append]
  refine wpN_seq (wpN_of_wp ?_)
  go_wp2
  change wpN _ _ _ _ _
  refine wpN_seq (wpN_of_wp ?_)
  go_wp2
  refine wpN_seq (wpN_of_wp ?_)
  go_wp2
  refine wpN_seq ?_
  refine wpN_seq (wpN_of_wp ?_)
  go_wp2
  refine wpN_seq ?_
  refine wpN_region_comm (n := 2) rfl rfl (comm_send_full rfl rfl (c := h) (v := .int .i64 s.length) (z := .int .i64 0) (by simp [go_sem, execOp, scase, Act.eval]) HCH.out (by simp [hf])) ?_
  simp only [List.drop_succ_cons, List.drop_zero, Act.put, List.setIfInBounds_toArray, List.set_cons_zero, List.set_cons_succ]
  go_wp2
  refine wpN_of_wp ?_
  go_wp2
  (go_ret2; exact ⟨rfl, rfl⟩)

set_option maxHeartbeats 2000000 in
/-- Post of what may not fly. -/
theorem post_arg (B g h : Nat) (v : Value) (s : List Row) (to : Int) (A : Option Addr) (n c : Nat) (w : World) (_air : Air w B g h v s) (bad : ¬ (0 ≤ to ∧ to < 3 ∧ n ≤ 5000)) :
    Calls Try.prog 8 #[.pointer (some ⟨g, 0, none⟩), .int .i64 to, .slice A n c] w fun e w' => e = .returned (.tuple #[.int .i64 (-1), .int .i64 1]) ∧ w' = w := by
  go_enter Try.func8, Try.ntmps8
  by_cases h1 : to < 0
  · go_wp2
    (go_ret2; exact ⟨rfl, rfl⟩)
  · by_cases h2 : to ≥ 3
    · go_wp2
      (go_ret2; exact ⟨rfl, rfl⟩)
    · have h3 : (n : Int) > 5000 := by omega
      go_wp2
      (go_ret2; exact ⟨rfl, rfl⟩)

/-- No air. -/
theorem post_nil (to : Int) (A : Option Addr) (n c : Nat) (w : World) :
    Calls Try.prog 8 #[.pointer none, .int .i64 to, .slice A n c] w fun e w' => e = .returned (.tuple #[.int .i64 (-1), .int .i64 10]) ∧ w' = w := by
  go_enter Try.func8, Try.ntmps8
  go_wp2
  (go_ret2; exact ⟨rfl, rfl⟩)

set_option maxHeartbeats 4000000 in
set_option maxRecDepth 100000 in
theorem post_ok (B g h : Nat) (v : Value) (s : List Row) (to : Int) (A : Option Addr) (n c : Nat) (body : List Int) (w : World) (air : Air w B g h v s) (hB : B ≤ w.heap.size) (t0 : 0 ≤ to) (t1 : to < 3)
    (hr : Rd w w.heap.size 1 A n (byt body)) (hA : A = none → n = 0 ∧ c = 0) (hn : n ≤ 5000) (few : s.length < 1000) (hf : (flyOf s).length < 200) :
    Calls Try.prog 8 #[.pointer (some ⟨g, 0, none⟩), .int .i64 to, .slice A n c] w fun e w' => ∃ v', e = .returned (.tuple #[.int .i64 s.length, .int .i64 0]) ∧ Air w' B g h v' (s ++ [⟨to, body, false⟩]) ∧ Turn w w' g h v v' := by
  obtain ⟨Av, cv, rfl, v1, v2, v3⟩ := air.form
  obtain rfl : n = body.length := by have := hr.1; simp at this; omega
  have c0 := air.c0
  have c1 := air.c1
  obtain ⟨n1, r, hch⟩ := air.ch
  obtain ⟨ps, hps, tb⟩ := air.tab
  have HCH := Lib.hid hch
  have HR := Lib.hid hr
  have AIR := Lib.hid air
  have TB := Lib.hid (And.intro hps tb)
  obtain ⟨i0, hi, hz0, hz1, hz2⟩ := info_parts fly_info
  clear hch hr air hps tb
  refine calls_of_wpN Try.func8 rfl ?_
  simp only [Try.ntmps8, List.size_toArray, List.length_cons, List.length_nil, Nat.reduceAdd, Nat.reduceSub, Array.replicate_succ,
     Array.replicate_zero, List.push_toArray, List.append_toArray, List.nil_append, List.cons_append]
  refine wpN_seq (wpN_of_wp ?_)
  go_wp2
  change wpN _ _ _ _ _
  refine wpN_seq (wpN_of_wp ?_)
  go_wp2
  refine wpN_seq (wpN_of_wp ?_)
  go_wp2
  refine wpN_seq ?_
  refine wpN_seq (wpN_of_wp ?_)
  go_wp2
  refine wpN_seq ?_
  refine wpN_region_comm (n := 2) rfl rfl (comm_send_room rfl rfl (c := h) (v := .int .i64 s.length) (z := .int .i64 0) (by simp [go_sem, execOp, scase, Act.eval]) HCH.out (by simpa using hf)) ?_
  have CH : Hid (Chg w (w.setChan h 200 ((nums (flyOf s)).toArray.push (.int .i64 s.length)) false (n1 + 1) r false) h (nums (flyOf s ++ [s.length]))) := Lib.hid (by
    have := chg_set w h ((nums (flyOf s)).toArray.push (.int .i64 s.length)) (n1 + 1) r AIR.out.lth
    simpa [nums] using this)
  generalize w.setChan h 200 ((nums (flyOf s)).toArray.push (.int .i64 s.length)) false (n1 + 1) r false = w1 at CH ⊢
  have hgl : g < w1.heap.size := by rw [CH.out.size]; exact AIR.out.lt
  have HT : Hid (w1.heap[g]? = some (.cells #[.slice Av s.length cv, .chan (some h)] 52 (0, 0))) := Lib.hid ((CH.out.block g AIR.out.ne).trans AIR.out.top)
  have c0 : w1.cell? ⟨g, 0, none⟩ = some (.slice Av s.length cv) := by rw [cell_of_row w1 g 0 _ 52 (0, 0) HT.out]; rfl
  have c1 : w1.cell? ⟨g, 1, none⟩ = some (.chan (some h)) := by rw [cell_of_row w1 g 1 _ 52 (0, 0) HT.out]; rfl
  have HR1 : Hid (Rd w1 w1.heap.size 1 A body.length (byt body)) := Lib.hid (by rw [CH.out.size]; exact CH.out.rd HCH.out HR.out)
  simp only [List.drop_succ_cons, List.drop_zero, Act.put, List.setIfInBounds_toArray, List.set_cons_zero, List.set_cons_succ]
  have OW : Hid (Own w1 B 55 3 (.slice Av s.length cv) s.length (ps.flatMap encP)) := Lib.hid (by
    have e := TB.out.2.own
    have hl : ps.length = s.length := by rw [← TB.out.1, List.length_map]
    rw [hl] at e
    exact e.keep fun j hj => CH.out.block j (fun e0 => AIR.out.vh (e0 ▸ hj)))
  have hs2 : w1.heap.size = w.heap.size := CH.out.size
  go_wp2
  refine wpN_of_wp ?_
  go_wp2
  refine wpN_of_wp ?_
  go_wp2_with fail
  go_region_law (first
    | (go_simp
       go_at_call 18
       refine (clone_any A body.length c (byt body) _ (by exact HR1.out) hA (byt_one body) (by omega)).mono ?_
       rintro e w2 ⟨bv, rfl, ho, hb⟩
       obtain ⟨A1, cc1, rfl, hq1, hq2, hq3⟩ := ho.form
       have hb0 : Below w1.heap.size w1 w2 := ⟨hb.os, hb.tape, hb.output, hb.size, hb.block⟩
       have B2 := Lib.hid hb0
       have O2 : Hid (Own w2 w1.heap.size 5 1 (.slice A1 body.length cc1) body.length (byt body)) := Lib.hid (by exact ho)
       have c0' : w2.cell? ⟨g, 0, none⟩ = some (.slice Av s.length cv) := (hb0.cell hgl).trans c0
       have OW2 : Hid (Own w2 B 55 3 (.slice Av s.length cv) s.length (ps.flatMap encP)) := Lib.hid (OW.out.below hb0)
       have hl2 : w1.heap.size ≤ w2.heap.size := hb0.size
       have hgl2 : g < w2.heap.size := Nat.lt_of_lt_of_le hgl hl2
       clear ho hb hb0)
    | (refine step_append_rd _ rfl (.tmp 41) (.tmp 46) 26 rfl B 55 i0 _ 3 40 Try.underlying26 hi hz0 hz1 hz2 rfl (by decide) (.slice Av s.length cv) s.length (ps.flatMap encP) rfl (OW2.out.alloc _) _ _ 1 1 [.int .i64 to, .slice A1 body.length cc1, .bool false] rfl (Rd.newE rfl rfl rfl rfl) (fun h => by cases h) (by simp; exact ⟨rfl, rfl, rfl⟩) (by simp only [maxLen]; omega) (by omega) (by simp; omega) ?_
       intro v3 w3 hown3 hg3 hat3
       obtain ⟨A3, c3v, rfl, r1, r2, r3⟩ := hown3.form
       have PL := fun w4 h4 => post_law (w4 := w4) AIR.out hB CH.out B2.out O2.out TB.out.1 hown3 hg3 (hat3.imp id fun e => by simpa using e) TB.out.2 h4 few hn hf
       have top3 : w3.heap[g]? = some (.cells #[.slice Av s.length cv, .chan (some h)] 52 (0, 0)) := (hg3.block g (by simp; omega) (fun e => AIR.out.vg e.symm)).trans ((heap_old _ _ _ (by omega)).trans ((B2.out.block g hgl).trans HT.out))
       have d0 : w3.cell? ⟨g, 0, none⟩ = some (.slice Av s.length cv) := cell_of_row w3 g 0 _ 52 (0, 0) top3
       have f0 : w3.frozen? ⟨g, 0, none⟩ = false := frozen_of_row w3 g 0 _ 52 top3
       have P3 := Lib.hid PL
       clear PL hown3 hg3 hat3 top3))
  all_goals
    go_wp2
    go_ret2
    exact ⟨_, rfl, P3.out _ rfl⟩
end Go.Proofs.Ytgegjoeggbhaeaa
