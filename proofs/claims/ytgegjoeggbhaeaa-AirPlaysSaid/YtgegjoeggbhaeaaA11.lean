import Derived.Test.YtgegjoeggbhaeaaA10
namespace Go.Proofs.Ytgegjoeggbhaeaa
open Go.RowKit Go.Conc

/-- What row k of an air reads. -/
theorem Air.row {w : World} {B g h : Nat} {v : Value} {s : List Row} {r : Row} {k : Nat} (a : Air w B g h v s) (hk : s[k]? = some r) :
    ∃ b off c Ab cb, v = .slice (some ⟨b, off, none⟩) s.length c ∧ w.cell? ⟨g, 0, none⟩ = some v ∧ w.cell? ⟨b, off + k * 3, none⟩ = some (.int .i64 r.to) ∧ w.cell? ⟨b, off + k * 3 + 1, none⟩ = some (.slice Ab r.body.length cb) ∧
      Rd w w.heap.size 1 Ab r.body.length (byt r.body) ∧ (Ab = none → r.body.length = 0 ∧ cb = 0) ∧ b < w.heap.size ∧ r.body.length ≤ 5000 ∧ k < s.length := by
  have hks : k < s.length := (List.getElem?_eq_some_iff.1 hk).1
  obtain ⟨Av, c, rfl, _, _, hn⟩ := a.form
  obtain ⟨ps, hps, tb⟩ := a.tab
  have hl : s.length = ps.length := by rw [← hps, List.length_map]
  cases Av with
  | none => have := (hn rfl).1; omega
  | some A =>
    have tb1 := tb
    rw [hl] at tb1
    obtain ⟨b, off, e, hbs, _⟩ := tb1.own.rd.2 (by omega)
    injection e with e
    subst e
    obtain ⟨p, hp, rfl⟩ : ∃ p, ps[k]? = some p ∧ p.1 = r := by rw [← hps, List.getElem?_map] at hk; exact Option.map_eq_some_iff.1 hk
    obtain ⟨q1, q2, q3, q4⟩ := tb1.cells k p hp
    have hb := tb1.bod p (List.mem_of_getElem? hp)
    obtain ⟨Ab, cb, e, _, _, h3⟩ := hb.form
    rw [e] at hb q2
    exact ⟨b, off, c, Ab, cb, rfl, a.c0, q1, q2, hb.rd, h3, q4, a.small _ (List.mem_of_getElem? hk), hks⟩

theorem lose_get (s : List Row) (k : Nat) (r : Row) (hk : s[k]? = some r) : (loseAt s k)[k]? = some { r with gone := true } := by
  unfold loseAt
  rw [List.getElem?_modify, hk]
  simp
theorem lose_len (s : List Row) (k : Nat) : (loseAt s k).length = s.length := by unfold loseAt; rw [List.length_modify]

theorem lose_nil (n : Int) (w : World) : Calls Try.prog 12 #[.pointer none, .int .i64 n] w fun e w' => e = .returned (.bool false) ∧ Below w.heap.size w w' := by
  have P1 : Hid ((w.alloc (.cells #[.int .i64 n] 3)).heap[w.heap.size]? = some (.cells #[.int .i64 n] 3 (0, 0)) ∧ Below w.heap.size w (w.alloc (.cells #[.int .i64 n] 3))) := Lib.hid ⟨heap_alloc_new _ _, (Below.refl _ _).alloc (Nat.le_refl _) _⟩
  go_enter Try.func12, Try.ntmps12
  go_wp2_with fail
  generalize hw1 : w.alloc (.cells #[.int .i64 n] 3) = w1 at P1 ⊢
  have c1 : w1.cell? ⟨w.heap.size, 0, none⟩ = some (.int .i64 n) := by rw [cell_of_row w1 _ 0 _ 3 (0, 0) P1.out.1]; rfl
  go_region_law (first
    | (go_simp
       go_at_call 16
       refine (flying_nil _).mono ?_
       rintro e w2 ⟨rfl, rfl⟩)
    | (go_simp
       go_at_call 21
       refine (contains_any none 0 [] n _ (by exact Rd.nil_ _ _ _ _) (by simp) false (by simp)).mono ?_
       rintro e w3 ⟨rfl, rfl⟩))
  all_goals
    go_wp2
    go_ret
    exact ⟨rfl, P1.out.2.os, P1.out.2.tape, P1.out.2.output, P1.out.2.size, P1.out.2.block⟩

set_option maxHeartbeats 1000000 in
theorem come_no (B g h : Nat) (v : Value) (s : List Row) (n : Int) (w : World) (a : Air w B g h v s) (hno : ¬ ∃ k : Nat, k ∈ flyOf s ∧ (k : Int) = n) :
    Calls Try.prog 10 #[.pointer (some ⟨g, 0, none⟩), .int .i64 n] w fun e w' => e = .returned (.tuple #[.int .i64 0, .slice none 0 0, .bool false]) ∧ Air w' B g h v s ∧ Turn w w' g h v v := by
  go_enter Try.func10, Try.ntmps10
  go_wp2_with fail
  refine (lose_no B g h v s n w a hno).mono ?_
  rintro e w1 ⟨rfl, a1, t1⟩
  have A1 := Lib.hid (And.intro a1 t1)
  clear a1 t1 a
  go_wp2
  go_ret3
  exact ⟨rfl, A1.out⟩

set_option maxHeartbeats 2000000 in
theorem come_yes (B g h : Nat) (v : Value) (s : List Row) (k : Nat) (r : Row) (w : World) (a : Air w B g h v s) (hB : B ≤ w.heap.size) (hk : s[k]? = some r) (hg : r.gone = false) :
    Calls Try.prog 10 #[.pointer (some ⟨g, 0, none⟩), .int .i64 (k : Int)] w fun e w' => ∃ bv, e = .returned (.tuple #[.int .i64 r.to, bv, .bool true]) ∧ Own w' w.heap.size 5 1 bv r.body.length (byt r.body) ∧ Air w' B g h v (loseAt s k) ∧ Turn w w' g h v v := by
  go_enter Try.func10, Try.ntmps10
  go_wp2_with fail
  refine (lose_yes B g h v s k r w a hk hg).mono ?_
  rintro e w1 ⟨rfl, a1, t1⟩
  have hsz := t1.size
  obtain ⟨b, off, c, Ab, cb, rfl, c0, c1, c2, hrd, hA, hbl, hn, hks⟩ := a1.row (lose_get s k r hk)
  have hgl := a1.lt
  rw [lose_len] at c0 a1 hks t1
  have T1 := Lib.hid t1
  have A1 := Lib.hid a1
  have RD := Lib.hid hrd
  clear a1 t1 a hrd hk
  go_wp2_with fail
  go_region_law
       (go_simp
        go_at_call 18
        refine (clone_any Ab r.body.length cb (byt r.body) _ (by exact RD.out) hA (byt_one r.body) (by omega)).mono ?_
        rintro e w2 ⟨bv, rfl, ho, hb⟩
        obtain ⟨A2, cc2, rfl, hq1, hq2, hq3⟩ := ho.form
        have hb0 : Below w1.heap.size w1 w2 := ⟨hb.os, hb.tape, hb.output, hb.size, hb.block⟩
        have B2 := Lib.hid hb0
        have O2 : Hid (Own w2 w1.heap.size 5 1 (.slice A2 r.body.length cc2) r.body.length (byt r.body)) := Lib.hid (by exact ho)
        have d0 := (hb0.cell hgl).trans c0
        have d1 := (hb0.cell hbl).trans c1
        have d2 := (hb0.cell hbl).trans c2
        clear ho hb hb0)
  all_goals
    go_wp2
    go_ret3
    refine ⟨_, rfl, (O2.out.base_ fun j hj => ?_), ?_, ?_⟩
    · have := (O2.out.block j hj).1; omega
    · rw [lose_len]; first | exact A1.out.below B2.out | exact (A1.out.below B2.out).drew
    · rw [lose_len]; first | exact T1.out.trans (Turn.of_below B2.out) | exact (T1.out.trans (Turn.of_below B2.out)).todrew

set_option maxHeartbeats 1000000 in
theorem double_no (B g h : Nat) (v : Value) (s : List Row) (n : Int) (w : World) (a : Air w B g h v s) (hno : ¬ ∃ k : Nat, k ∈ flyOf s ∧ (k : Int) = n) :
    Calls Try.prog 13 #[.pointer (some ⟨g, 0, none⟩), .int .i64 n] w fun e w' => e = .returned (.tuple #[.int .i64 (-1), .bool false]) ∧ Air w' B g h v s ∧ Turn w w' g h v v := by
  have HR := a.room
  go_enter Try.func13, Try.ntmps13
  go_wp2_with fail
  refine (flying_any B g h v s w a).mono ?_
  rintro e w1 ⟨fv, rfl, ho, a1, t1⟩
  obtain ⟨Af, cf, rfl, r1, r2, r3⟩ := ho.form
  have RF := Lib.hid ho.rd
  have A1 := Lib.hid (And.intro a1 t1)
  clear ho a1 t1 a
  go_wp2_with fail
  refine (contains_any Af cf (flyOf s) n w1 RF.out (by omega) false (by simpa using hno)).mono ?_
  rintro e w2 ⟨rfl, rfl⟩
  go_wp2
  go_ret2
  exact ⟨rfl, A1.out⟩

set_option maxHeartbeats 2000000 in
theorem double_full (B g h : Nat) (v : Value) (s : List Row) (k : Nat) (r : Row) (w : World) (a : Air w B g h v s) (hk : s[k]? = some r) (hg : r.gone = false) (hto : 0 ≤ r.to ∧ r.to < 3) (hf : (flyOf s).length = 200) :
    Calls Try.prog 13 #[.pointer (some ⟨g, 0, none⟩), .int .i64 (k : Int)] w fun e w' => e = .returned (.tuple #[.int .i64 (-1), .bool false]) ∧ Air w' B g h v s ∧ Turn w w' g h v v := by
  have HR := a.room
  have HF := Lib.hid hf
  clear hf
  have HM : Hid (∃ j : Nat, j ∈ flyOf s ∧ (j : Int) = k) := Lib.hid ⟨k, (mem_flyOf s k).2 ⟨r, hk, hg⟩, rfl⟩
  go_enter Try.func13, Try.ntmps13
  go_wp2_with fail
  refine (flying_any B g h v s w a).mono ?_
  rintro e w1 ⟨fv, rfl, ho, a1, t1⟩
  obtain ⟨Af, cf, rfl, r1, r2, r3⟩ := ho.form
  have RF := Lib.hid ho.rd
  obtain ⟨b, off, c, Ab, cb, rfl, c0, c1, c2, hrd, hA, hbl, hn, hks⟩ := a1.row hk
  have A1 := Lib.hid a1
  have T1 := Lib.hid t1
  clear ho a1 t1 a hrd hk
  go_wp2_with fail
  refine (contains_any Af cf (flyOf s) k w1 RF.out (by omega) true (by simpa using HM.out)).mono ?_
  rintro e w2 ⟨rfl, rfl⟩
  go_wp2_with fail
  go_region_law
    (go_simp
     go_at_call 8
     refine (post_full B g h _ s r.to Ab r.body.length cb _ (by first | exact A1.out.drew | exact A1.out) hto.1 hto.2 hn HF.out).mono ?_
     rintro e w3 ⟨rfl, rfl⟩)
  all_goals
    go_wp2
    go_ret2
    exact ⟨rfl, A1.out.drew, T1.out.todrew⟩

set_option maxHeartbeats 2000000 in
theorem double_ok (B g h : Nat) (v : Value) (s : List Row) (k : Nat) (r : Row) (w : World) (a : Air w B g h v s) (hB : B ≤ w.heap.size) (hk : s[k]? = some r) (hg : r.gone = false) (hto : 0 ≤ r.to ∧ r.to < 3) (few : s.length < 1000) (hf : (flyOf s).length < 200) :
    Calls Try.prog 13 #[.pointer (some ⟨g, 0, none⟩), .int .i64 (k : Int)] w fun e w' => ∃ v', e = .returned (.tuple #[.int .i64 s.length, .bool true]) ∧ Air w' B g h v' (s ++ [⟨r.to, r.body, false⟩]) ∧ Turn w w' g h v v' := by
  have HR := a.room
  have HF := Lib.hid hf
  clear hf
  have HM : Hid (∃ j : Nat, j ∈ flyOf s ∧ (j : Int) = k) := Lib.hid ⟨k, (mem_flyOf s k).2 ⟨r, hk, hg⟩, rfl⟩
  go_enter Try.func13, Try.ntmps13
  go_wp2_with fail
  refine (flying_any B g h v s w a).mono ?_
  rintro e w1 ⟨fv, rfl, ho, a1, t1⟩
  obtain ⟨Af, cf, rfl, r1, r2, r3⟩ := ho.form
  have RF := Lib.hid ho.rd
  obtain ⟨b, off, c, Ab, cb, rfl, c0, c1, c2, hrd, hA, hbl, hn, hks⟩ := a1.row hk
  have hs1 := t1.size
  have A1 := Lib.hid a1
  have T1 := Lib.hid t1
  have RD := Lib.hid hrd
  clear ho a1 t1 a hrd hk
  go_wp2_with fail
  refine (contains_any Af cf (flyOf s) k w1 RF.out (by omega) true (by simpa using HM.out)).mono ?_
  rintro e w2 ⟨rfl, rfl⟩
  go_wp2_with fail
  go_region_law
    (go_simp
     go_at_call 8
     refine (post_ok B g h _ s r.to Ab r.body.length cb r.body _ (by first | exact A1.out.drew | exact A1.out) (by show B ≤ w2.heap.size; omega) hto.1 hto.2 (by exact RD.out) hA hn few HF.out).mono ?_
     rintro e w3 ⟨v', rfl, a3, t3⟩
     have A3 : Hid (Air w3 B g h v' (s ++ [⟨r.to, r.body, false⟩]) ∧ Turn w w3 g h (.slice (some ⟨b, off, none⟩) s.length c) v') := Lib.hid (And.intro a3 (T1.out.trans (by first | exact t3.undrew | exact t3)))
     clear a3 t3)
  all_goals
    go_wp2
    go_ret2
    first | exact ⟨_, rfl, A3.out⟩ | exact ⟨_, rfl, A3.out.1.drew, A3.out.2.todrew⟩
end Go.Proofs.Ytgegjoeggbhaeaa
