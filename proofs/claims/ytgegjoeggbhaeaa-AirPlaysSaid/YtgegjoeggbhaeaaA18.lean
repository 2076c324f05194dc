import Derived.Test.YtgegjoeggbhaeaaA17
namespace Go.Proofs.Ytgegjoeggbhaeaa
open Go.RowKit Go.Conc

/-- A string's bytes. -/
def numsOf (s : ByteArray) : List Int := s.data.toList.map fun b => (b.toNat : Int)
theorem numsOf_len (s : ByteArray) : (numsOf s).length = s.size := by unfold numsOf; rw [List.length_map, Array.length_toList]; rfl

section
variable {w w2 w3 w4 : World} {B p : Nat} {v bv v3 : Value} {s : List Row} {to : Int} {body : List Int} {ps : List (Row × Value)}
theorem below_bytes (w : World) (s : ByteArray) : Below w.heap.size w (Lib.bytesWorld w 5 s) :=
  ⟨rfl, rfl, rfl, by rw [Lib.bytesWorld_size]; omega, fun j hj => Lib.bytesWorld_at_old w 5 s j hj⟩
theorem bod_bytes (w : World) (s : ByteArray) (to : Int) (g : Bool) : Bod (Lib.bytesWorld w 5 s) (⟨to, numsOf s, g⟩, .slice (some ⟨w.heap.size, 0, none⟩) s.size (grownCap w s.size 0 5)) := by
  refine ⟨w.heap.size, grownCap w s.size 0 5, _, _, by rw [numsOf_len], Lib.bytesWorld_at_new w 5 s, fun j x hx => ?_⟩
  have hj : j < s.size := by have := (List.getElem?_eq_some_iff.1 hx).1; rwa [numsOf_len] at this
  have hj' : j < s.data.size := hj
  have e : s.data[j]? = some s.data[j] := by simp [hj']
  have hx' : (numsOf s)[j]? = some ((s.data[j].toNat : Nat) : Int) := by unfold numsOf; rw [List.getElem?_map, Array.getElem?_toList, e]; rfl
  rw [hx'] at hx
  injection hx with hx
  subst hx
  simp [Lib.bytesCells, Array.getElem?_append, hj, e]
/-- A row more. -/
theorem rpush_law (a : Ref w B p v s) (b2 : Below w.heap.size w w2) (hbd : Bod w2 (⟨to, body, false⟩, bv)) (hps : ps.map (·.1) = s) (tb : RTab w B v ps)
    (o3 : Own w3 B 55 3 v3 (s.length + 1) (ps.flatMap encP ++ [.int .i64 to, bv, .bool false])) (g3 : (w2.alloc (.cells #[.int .i64 to, bv, .bool false] 55)).grownBy w3 v.ownBlock)
    (at3 : v3.ownBlock = v.ownBlock ∨ v3.ownBlock = some (w2.heap.size + 1)) (h4 : w4 = w3.setCell ⟨p, 0, none⟩ v3) (few : s.length < 1000) :
    Ref w4 B p v3 (s ++ [⟨to, body, false⟩]) ∧ Turn w w4 p p v v3 := by
  have hg := a.lt
  have s2 := b2.size
  have sz3 : w2.heap.size + 1 ≤ w3.heap.size := by have := g3.size; simpa using this
  have old2 : ∀ j < w2.heap.size, v.ownBlock ≠ some j → w3.heap[j]? = w2.heap[j]? := fun j hj h2 =>
    (g3.block j (by simp; omega) (fun e => h2 e.symm)).trans (heap_old _ _ _ (by omega))
  have old : ∀ j < w.heap.size, v.ownBlock ≠ some j → w3.heap[j]? = w.heap[j]? := fun j hj h2 => (old2 j (by omega) h2).trans (b2.block j hj)
  have top3 := (old p hg a.vp).trans a.top
  have v3p : v3.ownBlock ≠ some p := by
    rcases at3 with e | e
    · rw [e]; exact a.vp
    · rw [e]; intro e; injection e; omega
  have other : ∀ j, j ≠ p → w4.heap[j]? = w3.heap[j]? := fun j hj => by rw [h4]; exact heap_setCell_other _ _ _ _ (fun e => hj e)
  have top4 : w4.heap[p]? = some (.cells #[v3] 28 (0, 0)) := by rw [h4]; exact heap_setCell_same _ p 0 _ 28 _ top3
  have old4 : ∀ j < w2.heap.size, j ≠ p → v.ownBlock ≠ some j → w4.heap[j]? = w2.heap[j]? := fun j hj h1 h2 => (other j h1).trans (old2 j hj h2)
  have keep5 : ∀ (j : Nat) (cur : Array Value) (fr : Nat × Nat), w2.heap[j]? = some (.cells cur 5 fr) → w4.heap[j]? = w2.heap[j]? := fun j cur fr hc => by
    have hj := (Array.getElem?_eq_some_iff.1 hc).1
    refine old4 j hj ?_ ?_
    · rintro rfl
      rw [b2.block j hg, a.top] at hc
      injection hc with hc; injection hc with _ hc _; cases hc
    · intro e
      obtain ⟨cur', hc'⟩ := a.vtype e
      rw [b2.block j (a.vlt j e).2, hc'] at hc
      injection hc with hc; injection hc with _ hc _; cases hc
  subst hps
  refine ⟨⟨top4, ⟨ps ++ [(⟨to, body, false⟩, bv)], by simp, ⟨?_, ?_⟩⟩, a.bp, by simp at few ⊢; omega⟩, ⟨?_, ?_, ?_, ?_, ?_, ?_⟩⟩
  · have e0 : (ps ++ [((⟨to, body, false⟩ : Row), bv)]).flatMap encP = ps.flatMap encP ++ [.int .i64 to, bv, .bool false] := by simp [List.flatMap_append, encP]
    rw [e0, List.length_append, List.length_singleton]
    simp only [List.length_map] at o3
    refine o3.keep fun j hj => other j ?_
    rintro rfl
    exact v3p hj
  · intro q hq
    rcases List.mem_append.1 hq with hq | hq
    · exact ((tb.bod q hq).keep (w' := w2) fun j cur fr hc => b2.block j (Array.getElem?_eq_some_iff.1 hc).1).keep keep5
    · obtain rfl := List.mem_singleton.1 hq
      exact hbd.keep keep5
  · rw [h4]; exact g3.os.trans b2.os
  · rw [h4]; exact g3.tape.trans b2.tape
  · rw [h4]; exact g3.output.trans b2.output
  · rw [h4, World.size_setCell]; omega
  · intro j hj h1 _ h3
    exact (other j h1).trans (old j hj h3)
  · rcases at3 with e | e
    · exact .inl e
    · refine .inr fun j hj => ?_
      rw [e] at hj
      injection hj
      omega
end

set_option maxHeartbeats 1000000 in
/-- The reference's Post of what may not fly. -/
theorem rpost_arg (p : Nat) (to : Int) (str : ByteArray) (w : World) (bad : to < 0 ∨ 2 < to) :
    Calls Try.prog 9 #[.pointer (some ⟨p, 0, none⟩), .int .i64 to, .string str] w fun e w' => e = .returned (.tuple #[.int .i64 (-1), .int .i64 1]) ∧ w' = w := by
  rcases bad with h | h
  · go_enter Try.func9, Try.ntmps9
    go_wp2
    (go_ret2; exact ⟨rfl, rfl⟩)
  · have h' : ¬ to < 0 := by omega
    go_enter Try.func9, Try.ntmps9
    go_wp2
    (go_ret2; exact ⟨rfl, rfl⟩)

set_option maxHeartbeats 4000000 in
set_option maxRecDepth 100000 in
theorem rpost_ok (B p : Nat) (v : Value) (s : List Row) (to : Int) (str : ByteArray) (w : World) (a : Ref w B p v s) (hB : B ≤ w.heap.size) (t0 : 0 ≤ to) (t1 : to ≤ 2) (hn : str.size ≤ 5000) (few : s.length < 200) :
    Calls Try.prog 9 #[.pointer (some ⟨p, 0, none⟩), .int .i64 to, .string str] w fun e w' => ∃ v', e = .returned (.tuple #[.int .i64 s.length, .int .i64 0]) ∧ Ref w' B p v' (s ++ [⟨to, numsOf str, false⟩]) ∧ Turn w w' p p v v' := by
  obtain ⟨i0, hi, hz0, hz1, hz2⟩ := info_parts fly_info
  have I0 := Lib.hid (And.intro hi (And.intro hz0 (And.intro hz1 hz2)))
  have hcv := fun W => Lib.run_convert_string_bytes (P := Try.prog) W 9 30 5 str Try.underlying9 Try.underlying30 u8_under
  have hfl := fly_len s
  clear hi hz0 hz1 hz2
  go_enter Try.func9, Try.ntmps9
  go_wp2_with fail
  refine (rflying B p v s w a (by omega)).mono ?_
  rintro e w1 ⟨fv, rfl, ho, b1⟩
  obtain ⟨Af, cf, rfl, _, _, _⟩ := ho.form
  have a1 := a.below b1
  have T1 : Hid (Turn w w1 p p v v) := Lib.hid (Turn.of_below b1)
  have s1 := b1.size
  clear ho b1 a
  obtain ⟨A, c, rfl, q1, q2, q3⟩ := a1.form
  obtain ⟨ps, hps, tb⟩ := a1.tab
  have hl : ps.length = s.length := by rw [← hps, List.length_map]
  have OW : Hid (Own w1 B 55 3 (.slice A s.length c) s.length (ps.flatMap encP)) := Lib.hid (by rw [← hl]; have := tb.own; rwa [← hps, List.length_map] at this)
  have TB := Lib.hid (And.intro hps tb)
  have c0 := a1.c0
  have A1 := Lib.hid a1
  clear hps tb hl a1
  have B2 := Lib.hid (below_bytes w1 str)
  have BD := Lib.hid (bod_bytes w1 str to false)
  have Z2 := Lib.hid (Lib.bytesWorld_size w1 5 str)
  go_wp2_with (at_builtin; refine wpList_append_rd _ rfl (.tmp 29) (.tmp 34) 26 rfl B 55 i0 _ 3 40 Try.underlying26 I0.out.1 I0.out.2.1 I0.out.2.2.1 I0.out.2.2.2 rfl (by decide) (.slice A s.length c) s.length (ps.flatMap encP) rfl ((OW.out.below B2.out).alloc _) _ _ 1 1 [.int .i64 to, .slice (some ⟨w1.heap.size, 0, none⟩) str.size (grownCap w1 str.size 0 5), .bool false] rfl (Rd.newE rfl rfl rfl rfl) (fun h => by cases h) (by simp; exact ⟨rfl, rfl, rfl⟩) (by simp only [maxLen]; omega) (by omega) (by have := B2.out.size; simp; omega) ?_; intro v3 w3 hown3 hg3 hat3; obtain ⟨A3, c3v, rfl, r1, r2, r3⟩ := hown3.form; have PL := fun w4 h4 => rpush_law (w4 := w4) A1.out B2.out BD.out TB.out.1 TB.out.2 hown3 hg3 (hat3.imp id fun e => by simpa using e) h4 (by omega); have P3 := Lib.hid PL; have top3 : w3.heap[p]? = some (.cells #[.slice A s.length c] 28 (0, 0)) := (hg3.block p (by have := A1.out.lt; have := B2.out.size; simp; omega) (fun e => A1.out.vp e.symm)).trans ((heap_old _ _ _ (by have := A1.out.lt; have := B2.out.size; omega)).trans ((B2.out.block p A1.out.lt).trans A1.out.top)); have d0 : w3.cell? ⟨p, 0, none⟩ = some (.slice A s.length c) := cell_of_row w3 p 0 _ 28 (0, 0) top3; have f0 : w3.frozen? ⟨p, 0, none⟩ = false := frozen_of_row w3 p 0 _ 28 top3; have G3 : Hid (p < w3.heap.size) := Lib.hid (Array.getElem?_eq_some_iff.1 top3).1; clear PL hown3 hg3 hat3 top3)
  go_ret2
  exact ⟨_, rfl, (P3.out _ rfl).1, T1.out.trans (P3.out _ rfl).2⟩
end Go.Proofs.Ytgegjoeggbhaeaa
