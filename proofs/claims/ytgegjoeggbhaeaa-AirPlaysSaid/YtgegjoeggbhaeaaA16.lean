import Derived.Test.YtgegjoeggbhaeaaA15
import Derived.Lib.ConvBytes
namespace Go.Proofs.Ytgegjoeggbhaeaa
open Go.RowKit Go.Conc

/-! ### The reference's air -/
/-- A body of the reference's: bytes in a block that no one writes. -/
def Bod (w : World) (p : Row × Value) : Prop :=
  ∃ (b c : Nat) (cur : Array Value) (fr : Nat × Nat), p.2 = .slice (some ⟨b, 0, none⟩) p.1.body.length c ∧ w.heap[b]? = some (.cells cur 5 fr) ∧ ∀ (j : Nat) (x : Int), p.1.body[j]? = some x → cur[j]? = some (Value.int .u8 x)

structure RTab (w : World) (B : Nat) (v : Value) (ps : List (Row × Value)) : Prop where
  own : Own w B 55 3 v ps.length (ps.flatMap encP)
  bod : ∀ p ∈ ps, Bod w p

/-- Block p holds the one field; v is the slice. -/
structure Ref (w : World) (B p : Nat) (v : Value) (s : List Row) : Prop where
  top : w.heap[p]? = some (.cells #[v] 28 (0, 0))
  tab : ∃ ps : List (Row × Value), ps.map (·.1) = s ∧ RTab w B v ps
  bp : B ≤ p
  few : s.length ≤ 1000

section
variable {w w' : World} {B p : Nat} {v v' : Value} {s : List Row} {ps : List (Row × Value)}
theorem Bod.keep {q : Row × Value} (h : Bod w q) (h5 : ∀ (j : Nat) (cur : Array Value) (fr : Nat × Nat), w.heap[j]? = some (.cells cur 5 fr) → w'.heap[j]? = w.heap[j]?) : Bod w' q := by
  obtain ⟨b, c, cur, fr, e, hc, hx⟩ := h
  exact ⟨b, c, cur, fr, e, (h5 b cur fr hc).trans hc, hx⟩
theorem RTab.keep (t : RTab w B v ps) (hv : ∀ j, v.ownBlock = some j → w'.heap[j]? = w.heap[j]?) (h5 : ∀ (j : Nat) (cur : Array Value) (fr : Nat × Nat), w.heap[j]? = some (.cells cur 5 fr) → w'.heap[j]? = w.heap[j]?) : RTab w' B v ps :=
  ⟨t.own.keep hv, fun q hq => (t.bod q hq).keep h5⟩
theorem RTab.lt (t : RTab w B v ps) : ∀ j, v.ownBlock = some j → B ≤ j ∧ j < w.heap.size := fun j hj => t.own.block j hj
theorem RTab.below (t : RTab w B v ps) (b : Below w.heap.size w w') : RTab w' B v ps :=
  t.keep (fun j hj => b.block j (t.lt j hj).2) fun j cur fr hc => b.block j (Array.getElem?_eq_some_iff.1 hc).1
theorem Ref.c0 (a : Ref w B p v s) : w.cell? ⟨p, 0, none⟩ = some v := by rw [cell_of_row w p 0 _ 28 (0, 0) a.top]; rfl
theorem Ref.fz (a : Ref w B p v s) (i : Nat) : w.frozen? ⟨p, i, none⟩ = false := frozen_of_row w p i _ 28 a.top
theorem Ref.lt (a : Ref w B p v s) : p < w.heap.size := (Array.getElem?_eq_some_iff.1 a.top).1
theorem Ref.form (a : Ref w B p v s) : ∃ A c, v = .slice A s.length c ∧ s.length ≤ c ∧ c ≤ maxLen ∧ (A = none → s.length = 0 ∧ c = 0) := by
  obtain ⟨ps, rfl, t⟩ := a.tab
  obtain ⟨A, c, e, h1, h2, h3⟩ := t.own.form
  rw [List.length_map]
  exact ⟨A, c, e, h1, h2, h3⟩
theorem Ref.vlt (a : Ref w B p v s) : ∀ j, v.ownBlock = some j → B ≤ j ∧ j < w.heap.size := by
  obtain ⟨ps, _, t⟩ := a.tab
  exact t.lt
theorem Ref.vtype (a : Ref w B p v s) {j : Nat} (hj : v.ownBlock = some j) : ∃ cur, w.heap[j]? = some (.cells cur 55 (0, 0)) := by
  obtain ⟨ps, _, t⟩ := a.tab
  exact t.own.type hj
theorem Ref.vp (a : Ref w B p v s) : v.ownBlock ≠ some p := by
  intro e
  obtain ⟨cur, hc⟩ := a.vtype e
  rw [a.top] at hc
  injection hc with hc
  injection hc with _ hc _
  cases hc
theorem Ref.keep (a : Ref w B p v s) (hp : w'.heap[p]? = w.heap[p]?) (hv : ∀ j, v.ownBlock = some j → w'.heap[j]? = w.heap[j]?) (h5 : ∀ (j : Nat) (cur : Array Value) (fr : Nat × Nat), w.heap[j]? = some (.cells cur 5 fr) → w'.heap[j]? = w.heap[j]?) : Ref w' B p v s := by
  obtain ⟨ps, e, t⟩ := a.tab
  exact ⟨hp.trans a.top, ⟨ps, e, t.keep hv h5⟩, a.bp, a.few⟩
theorem Ref.below (a : Ref w B p v s) (b : Below w.heap.size w w') : Ref w' B p v s :=
  a.keep (b.block p a.lt) (fun j hj => b.block j (a.vlt j hj).2) fun j cur fr hc => b.block j (Array.getElem?_eq_some_iff.1 hc).1
theorem Ref.drew (a : Ref w B p v s) : Ref w.drew B p v s := by
  obtain ⟨ps, e, t⟩ := a.tab
  exact ⟨a.top, ⟨ps, e, t.own, fun q hq => t.bod q hq⟩, a.bp, a.few⟩
/-- What lies beside the reference's blocks stands. -/
theorem Ref.beside (a : Ref w B p v s) (t : Turn w w' p p v v') {j : Nat} {cur : Array Value} {e : TypeId} {fr : Nat × Nat} (hj : w.heap[j]? = some (.cells cur e fr)) (h1 : e ≠ 28) (h2 : e ≠ 55) : w'.heap[j]? = w.heap[j]? := by
  have hp : j ≠ p := by
    rintro rfl
    rw [a.top] at hj
    injection hj with hj
    injection hj with _ hj _
    exact h1 hj.symm
  refine t.block j (Array.getElem?_eq_some_iff.1 hj).1 hp hp ?_
  intro e0
  obtain ⟨cur', hc⟩ := a.vtype e0
  rw [hc] at hj
  injection hj with hj
  injection hj with _ hj _
  exact h2 hj.symm

/-- What row k reads. -/
theorem RTab.cells {b off c : Nat} (t : RTab w B (.slice (some ⟨b, off, none⟩) ps.length c) ps) (k : Nat) (p : Row × Value) (hk : ps[k]? = some p) :
    w.cell? ⟨b, off + k * 3, none⟩ = some (.int .i64 p.1.to) ∧ w.cell? ⟨b, off + k * 3 + 1, none⟩ = some p.2 ∧ w.cell? ⟨b, off + k * 3 + 2, none⟩ = some (.bool p.1.gone) ∧ b < w.heap.size := by
  have hlt : k < ps.length := (List.getElem?_eq_some_iff.1 hk).1
  obtain ⟨b', off', e, hb, hc⟩ := t.own.rd.2 (by omega)
  injection e with e
  injection e with e1 e2 _
  subst e1 e2
  refine ⟨?_, ?_, ?_, hb⟩
  · have := hc _ _ (flat_get encP 3 encP_len ps k p hk 0 _ rfl)
    simpa using this
  · have := hc _ _ (flat_get encP 3 encP_len ps k p hk 1 _ rfl)
    simpa [Nat.add_assoc] using this
  · have := hc _ _ (flat_get encP 3 encP_len ps k p hk 2 _ rfl)
    simpa [Nat.add_assoc] using this
/-- string(body). -/
theorem Bod.conv {q : Row × Value} (h : Bod w q) : (convert 30 9 q.2).run Try.prog w = .ok (.string (strOfNums q.1.body)) w := by
  obtain ⟨b, c, cur, fr, e, hc, hx⟩ := h
  rw [e]
  refine run_convert_bytes_arg w 30 5 Try.underlying30 u8_under _ _ _ _ q.1.body rfl (fun i hi => ?_) 9 Try.underlying9
  rw [Nat.zero_add, cell_of_row w b i cur 5 fr hc]
  exact hx i _ (by simp [List.getD_eq_getElem?_getD, List.getElem?_eq_getElem hi])
theorem Ref.row (a : Ref w B p v s) {r : Row} {k : Nat} (hk : s[k]? = some r) :
    ∃ b off c bv, v = .slice (some ⟨b, off, none⟩) s.length c ∧ w.cell? ⟨p, 0, none⟩ = some v ∧ w.cell? ⟨b, off + k * 3, none⟩ = some (.int .i64 r.to) ∧ w.cell? ⟨b, off + k * 3 + 1, none⟩ = some bv ∧ w.cell? ⟨b, off + k * 3 + 2, none⟩ = some (.bool r.gone) ∧
      Bod w (r, bv) ∧ (∀ i, w.frozen? ⟨b, i, none⟩ = false) ∧ b < w.heap.size ∧ k < s.length := by
  have hks : k < s.length := (List.getElem?_eq_some_iff.1 hk).1
  obtain ⟨Av, c, rfl, _, _, hn⟩ := a.form
  obtain ⟨ps, hps, tb⟩ := a.tab
  have hl : s.length = ps.length := by rw [← hps, List.length_map]
  cases Av with
  | none => have := (hn rfl).1; omega
  | some A =>
    have tb1 := tb
    rw [hl] at tb1
    obtain ⟨b, off, e, hbs, _⟩ := tb1.own.rd.2 (by omega)
    injection e with e
    subst e
    obtain ⟨p, hp, rfl⟩ : ∃ p, ps[k]? = some p ∧ p.1 = r := by rw [← hps, List.getElem?_map] at hk; exact Option.map_eq_some_iff.1 hk
    obtain ⟨q1, q2, q3, q4⟩ := tb1.cells k p hp
    obtain ⟨cur, hc⟩ := a.vtype (j := b) (by simp [Value.ownBlock])
    exact ⟨b, off, c, p.2, rfl, a.c0, q1, q2, q3, tb1.bod p (List.mem_of_getElem? hp), fun i => frozen_of_row w b i _ 55 hc, q4, hks⟩
end

/-! ### there -/
theorem there_out (B p : Nat) (v : Value) (s : List Row) (n : Int) (w : World) (a : Ref w B p v s) (hn : n < 0 ∨ (s.length : Int) ≤ n) :
    Calls Try.prog 20 #[.pointer (some ⟨p, 0, none⟩), .int .i64 n] w fun e w' => e = .returned (.bool false) ∧ w' = w := by
  have c0 := a.c0
  obtain ⟨A, c, rfl, _, _, _⟩ := a.form
  clear a
  rcases hn with hn | hn
  · go_enter Try.func20, Try.ntmps20
    go_wp2
    go_ret
    exact ⟨rfl, rfl⟩
  · go_enter Try.func20, Try.ntmps20
    go_wp2
    go_ret
    exact ⟨rfl, rfl⟩

theorem there_in (B p : Nat) (v : Value) (s : List Row) (k : Nat) (r : Row) (w : World) (a : Ref w B p v s) (hk : s[k]? = some r) :
    Calls Try.prog 20 #[.pointer (some ⟨p, 0, none⟩), .int .i64 (k : Int)] w fun e w' => e = .returned (.bool (!r.gone)) ∧ w' = w := by
  obtain ⟨b, off, c, bv, rfl, c0, c1, c2, c3, _, _, _, hks⟩ := a.row hk
  clear a
  obtain ⟨to, body, gone⟩ := r
  cases gone
  all_goals
    go_enter Try.func20, Try.ntmps20
    go_wp2
    go_ret
    exact ⟨rfl, rfl⟩
end Go.Proofs.Ytgegjoeggbhaeaa
