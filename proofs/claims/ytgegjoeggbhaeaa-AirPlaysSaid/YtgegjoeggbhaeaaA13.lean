import Derived.Test.YtgegjoeggbhaeaaA12
import Derived.Lib.SlBytesConst
namespace Go.Proofs.Ytgegjoeggbhaeaa
open Go.RowKit Go.Conc

theorem rd_marked (w : World) (cs : Array Value) (t : TypeId) (fr : Nat × Nat) (n : Nat) (h : cs.size = n) : Rd (w.alloc (.cells cs t fr)) (w.alloc (.cells cs t fr)).heap.size 1 (some ⟨w.heap.size, 0, none⟩) n cs.toList :=
  ⟨by simpa using h, fun _ => ⟨w.heap.size, 0, rfl, by simp, fun j u hu => by
    rw [cell_of_row _ _ (0 + j) cs t fr (heap_alloc_new w _)]; simpa using hu⟩⟩
theorem u8_under : Try.prog.underlying 5 = some (.int .u8) := by kernel_rfl

/-- A new air. -/
theorem new_air (w : World) : Calls Try.prog 6 #[] w fun e w' => ∃ g h, e = .returned (.pointer (some ⟨g, 0, none⟩)) ∧ Air w' w.heap.size g h (.slice none 0 0) [] ∧ Below w.heap.size w w' := by
  refine (new_any w).mono ?_
  rintro e w' ⟨rfl, rfl⟩
  refine ⟨w.heap.size + 1, w.heap.size, rfl, ⟨?_, ⟨0, 0, ?_⟩, ⟨[], rfl, Own.nil_ _ _ _ _, fun p hp => by simp at hp⟩, by omega, by omega, by simp, by simp, by simp [flyOf]⟩, ((Below.refl _ _).alloc (Nat.le_refl _) _).alloc (by simp) _⟩
  · exact heap_at _ _ _ (by simp)
  · rw [heap_old _ _ _ (by simp)]
    rw [heap_alloc_new]
    simp [flyOf, nums]

/-- string(b) of bytes that the call owns. -/
theorem conv_own {w : World} {B : Nat} {A : Option Addr} {c : Nat} {body : List Int} (h : Own w B 5 1 (.slice A body.length c) body.length (byt body)) : (convert 30 9 (.slice A body.length c)).run Try.prog w = .ok (.string (strOfNums body)) w := by
  cases A with
  | none =>
    obtain ⟨_, _, e, _, _, h3⟩ := h.form
    injection e with e1 _ e2
    subst e1 e2
    have h0 := (h3 rfl).1
    obtain rfl : body = [] := List.eq_nil_of_length_eq_zero h0
    exact run_convert_bytes_nil w 30 5 Try.underlying30 u8_under _ _ 9 Try.underlying9
  | some a =>
    rcases Nat.eq_zero_or_pos body.length with h0 | h0
    · rcases h.2 with ⟨e, _⟩ | ⟨g, off, cap, cur, e, _⟩
      · cases e
      · injection e with e _ _
        injection e with e
        subst e
        exact run_convert_bytes_arg w 30 5 Try.underlying30 u8_under _ _ _ _ body rfl (fun i hi => by omega) 9 Try.underlying9
    · obtain ⟨b, off, e, _, hc⟩ := h.rd.2 h0
      injection e with e
      subst e
      refine run_convert_bytes_arg w 30 5 Try.underlying30 u8_under _ _ _ _ body rfl (fun i hi => ?_) 9 Try.underlying9
      exact hc i _ (by simp [byt, List.getD_eq_getElem?_getD, List.getElem?_eq_getElem hi])

/-- How far a law has come: its air, and what has turned since the start. -/
structure Way (w w' : World) (g h : Nat) (v : Value) (s : List Row) : Prop where
  air : Air w' w.heap.size g h v s
  below : Below w.heap.size w w'
section
variable {w a b : World} {g h : Nat} {v v' : Value} {s s' : List Row}
theorem Way.turn (y : Way w a g h v s) (air : Air b w.heap.size g h v' s') (t : Turn a b g h v v') : Way w b g h v' s' :=
  ⟨air, y.below.trans (t.below y.below.size y.air.bg y.air.bh fun j hj => (y.air.vlt j hj).1)⟩
theorem Way.on (y : Way w a g h v s) (t : Below a.heap.size a b) : Way w b g h v s := ⟨y.air.below t, y.below.trans (t.mono y.below.size)⟩
theorem Way.alloc (y : Way w a g h v s) (o : Obj) : Way w (a.alloc o) g h v s := y.on ((Below.refl _ _).alloc (Nat.le_refl _) o)
theorem Way.size (y : Way w a g h v s) : w.heap.size ≤ a.heap.size := y.below.size
end

abbrev rq (b : Bool) : Row := ⟨1, [113], b⟩

set_option maxHeartbeats 4000000 in
set_option maxRecDepth 100000 in
theorem told_any (w : World) : Calls Try.prog 7 #[] w fun e w' => e = .returned (.bool true) ∧ Below w.heap.size w w' := by
  have hcv := fun W => Lib.run_convert_bytes_const (P := Try.prog) W 30 5 #[.int .u8 113] 1 1 Try.underlying30 u8_under
  go_enter Try.func7, Try.ntmps7
  go_wp2_with fail
  refine (new_air w).mono ?_
  rintro e w1 ⟨g, h, rfl, a1, b1⟩
  have Y1 := Lib.hid (Way.mk a1 b1)
  clear a1 b1
  go_wp2_with fail
  have Y2 := Lib.hid (Y1.out.alloc (.cells #[.int .u8 113] 5 (1, 2)))
  refine (post_ok w.heap.size g h _ [] 1 _ 1 1 [113] _ Y2.out.air Y2.out.size (by decide) (by decide) (rd_marked w1 #[.int .u8 113] 5 (1, 2) 1 rfl) (fun h => by cases h) (by decide) (by decide) (by decide)).mono ?_
  rintro e w3 ⟨v3, rfl, a3, t3⟩
  have Y3 : Hid (Way w w3 g h v3 [rq false]) := Lib.hid (Y2.out.turn a3 t3)
  clear a3 t3 Y1 Y2
  go_wp2_with fail
  refine (double_ok w.heap.size g h v3 [rq false] 0 (rq false) w3 Y3.out.air Y3.out.size rfl rfl (by decide) (by decide) (by decide)).mono ?_
  rintro e w4 ⟨v4, rfl, a4, t4⟩
  have Y4 : Hid (Way w w4 g h v4 [rq false, rq false]) := Lib.hid (Y3.out.turn a4 t4)
  clear a4 t4 Y3
  go_wp2_with fail
  refine (come_yes w.heap.size g h v4 [rq false, rq false] 0 (rq false) w4 Y4.out.air Y4.out.size rfl rfl).mono ?_
  rintro e w5 ⟨bv, rfl, o5, a5, t5⟩
  obtain ⟨Ab, cb, rfl, _, _, _⟩ := o5.form
  have Y5 : Hid (Way w w5 g h v4 [rq true, rq false]) := Lib.hid (Y4.out.turn a5 t5)
  have O5 : Hid (Own w5 w4.heap.size 5 1 (.slice Ab 1 cb) 1 (byt [113])) := Lib.hid o5
  clear a5 t5 Y4 o5
  go_wp2_with fail
  refine (come_no w.heap.size g h v4 [rq true, rq false] 0 w5 Y5.out.air (by decide)).mono ?_
  rintro e w6 ⟨rfl, a6, t6⟩
  have Y6 : Hid (Way w w6 g h v4 [rq true, rq false]) := Lib.hid (Y5.out.turn a6 t6)
  have O6 := Lib.hid (Y5.out.air.other t6 O5.out (by decide) (by decide))
  clear a6 t6 Y5 O5
  go_wp2_with fail
  refine (lose_yes w.heap.size g h v4 [rq true, rq false] 1 (rq false) w6 Y6.out.air rfl rfl).mono ?_
  rintro e w7 ⟨rfl, a7, t7⟩
  have Y7 : Hid (Way w w7 g h v4 [rq true, rq true]) := Lib.hid (Y6.out.turn a7 t7)
  have O7 := Lib.hid (Y6.out.air.other t7 O6.out (by decide) (by decide))
  clear a7 t7 Y6 O6
  go_wp2_with fail
  refine (post_arg w.heap.size g h v4 [rq true, rq true] 3 none 0 0 w7 Y7.out.air (by omega)).mono ?_
  rintro e w8 ⟨rfl, rfl⟩
  go_wp2_with fail
  refine (post_nil 0 none 0 0 _).mono ?_
  rintro e w9 ⟨rfl, rfl⟩
  have hcs : (convert 30 9 (.slice Ab 1 cb)).run Try.prog w9 = .ok (.string { data := #[113] }) w9 := conv_own (body := [113]) O7.out
  go_wp2_with fail
  refine (lose_no w.heap.size g h v4 [rq true, rq true] 1 w9 Y7.out.air (by decide)).mono ?_
  rintro e w10 ⟨rfl, a10, t10⟩
  have Y10 : Hid (Way w w10 g h v4 [rq true, rq true]) := Lib.hid (Y7.out.turn a10 t10)
  clear a10 t10 Y7 O7 hcs
  go_wp2_with fail
  refine (all_any w.heap.size g h v4 [rq true, rq true] w10 Y10.out.air).mono ?_
  rintro e w11 ⟨lv, qs, rfl, hq, tq, b11⟩
  obtain ⟨Aq, cq, rfl, _, _, _⟩ := tq.own.form
  have hql : qs.length = 2 := by have := congrArg List.length hq; simpa using this
  rw [hql]
  have Y11 := Lib.hid (Y10.out.on b11)
  clear tq b11 Y10 hq
  go_wp2_with fail
  refine (flying_any w.heap.size g h v4 [rq true, rq true] w11 Y11.out.air).mono ?_
  rintro e w12 ⟨fv, rfl, o12, a12, t12⟩
  obtain ⟨Af, cf, rfl, _, _, _⟩ := o12.form
  have Y12 : Hid (Way w w12 g h v4 [rq true, rq true]) := Lib.hid (Y11.out.turn a12 t12)
  have hfl : (flyOf [rq true, rq true]).length = 0 := by decide
  rw [hfl]
  clear o12 a12 t12 Y11
  go_wp2_with fail
  refine (lose_nil 0 w12).mono ?_
  rintro e w13 ⟨rfl, b13⟩
  have Y13 := Lib.hid (Y12.out.on b13)
  clear b13 Y12
  go_wp2
  go_ret
  exact ⟨rfl, Y13.out.below⟩
end Go.Proofs.Ytgegjoeggbhaeaa
