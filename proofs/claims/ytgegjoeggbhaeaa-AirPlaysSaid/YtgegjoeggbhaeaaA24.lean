import Derived.Test.YtgegjoeggbhaeaaA23
namespace Go.Proofs.Ytgegjoeggbhaeaa
open Go.RowKit Go.Conc

/-- Inside a round of AirPlays: both airs, and the step's own copy in block b. -/
structure Mid (w w' : World) (g h : Nat) (v : Value) (s : List Row) (p : Nat) (u : Value) (z : List Row) (b : Nat) (k0 k1 k2 k3 : Value) : Prop where
  two : Two w.heap.size w' g h v s p u z
  below : Below w.heap.size w w'
  op : w'.heap[b]? = some (.cells #[k0, k1, k2, k3] 32 (0, 0))

section
variable {w a a' : World} {g h p b : Nat} {v v' u u' : Value} {s s' z z' : List Row} {k0 k1 k2 k3 : Value}
theorem Mid.new (q : Play w a g h v p u s) (k0 k1 k2 k3 : Value) : Mid w (a.alloc (.cells #[k0, k1, k2, k3] 32)) g h v s p u s a.heap.size k0 k1 k2 k3 :=
  ⟨q.two.on ((Below.refl _ _).alloc (Nat.le_refl _) _), q.below.alloc q.below.size _, heap_alloc_new _ _⟩
theorem Mid.size (m : Mid w a g h v s p u z b k0 k1 k2 k3) : w.heap.size ≤ a.heap.size := m.below.size
theorem Mid.A (m : Mid w a g h v s p u z b k0 k1 k2 k3) (q : Air a' w.heap.size g h v' s') (t : Turn a a' g h v v') : Mid w a' g h v' s' p u z b k0 k1 k2 k3 :=
  ⟨m.two.stepA q t, m.below.trans (m.two.air.below_of t m.size), (m.two.air.beside t m.op (by decide) (by decide)).trans m.op⟩
theorem Mid.R (m : Mid w a g h v s p u z b k0 k1 k2 k3) (q : Ref a' w.heap.size p u' z') (t : Turn a a' p p u u') : Mid w a' g h v s p u' z' b k0 k1 k2 k3 :=
  ⟨m.two.stepR q t, m.below.trans (t.below m.size m.two.ref.bp m.two.ref.bp fun j hj => (m.two.ref.vlt j hj).1), (m.two.ref.beside t m.op (by decide) (by decide)).trans m.op⟩
theorem Mid.c0 (m : Mid w a g h v s p u z b k0 k1 k2 k3) : a.cell? ⟨b, 0, none⟩ = some k0 := by rw [cell_of_row a b 0 _ 32 (0, 0) m.op]; rfl
theorem Mid.c1 (m : Mid w a g h v s p u z b k0 k1 k2 k3) : a.cell? ⟨b, 1, none⟩ = some k1 := by rw [cell_of_row a b 1 _ 32 (0, 0) m.op]; rfl
theorem Mid.c2 (m : Mid w a g h v s p u z b k0 k1 k2 k3) : a.cell? ⟨b, 2, none⟩ = some k2 := by rw [cell_of_row a b 2 _ 32 (0, 0) m.op]; rfl
theorem Mid.c3 (m : Mid w a g h v s p u z b k0 k1 k2 k3) : a.cell? ⟨b, 3, none⟩ = some k3 := by rw [cell_of_row a b 3 _ 32 (0, 0) m.op]; rfl
/-- A row of bytes stands when the reference turns. -/
theorem Ref.own5 {B N n : Nat} {x : Value} {xs : List Value} (q : Ref a B p u z) (t : Turn a a' p p u u') (o : Own a N 5 1 x n xs) : Own a' N 5 1 x n xs :=
  o.keep fun j hj => by obtain ⟨cur, hc⟩ := o.type hj; exact q.beside t hc (by decide) (by decide)
end

/-- A number flies, or it does not. -/
theorem fly_or (s : List Row) (n : Int) : (∃ (k : Nat) (r : Row), n = (k : Int) ∧ s[k]? = some r ∧ r.gone = false) ∨ ¬ ∃ k : Nat, k ∈ flyOf s ∧ (k : Int) = n := by
  by_cases h : ∃ k : Nat, k ∈ flyOf s ∧ (k : Int) = n
  · obtain ⟨k, hk, rfl⟩ := h
    obtain ⟨r, hr, hg⟩ := (mem_flyOf s k).1 hk
    exact .inl ⟨k, r, rfl, hr, hg⟩
  · exact .inr h
theorem lose_tos {s : List Row} (h : ∀ r ∈ s, 0 ≤ r.to ∧ r.to < 3) (k : Nat) : ∀ r ∈ loseAt s k, 0 ≤ r.to ∧ r.to < 3 := by
  intro r hr
  unfold loseAt at hr
  obtain ⟨i, hi, rfl⟩ := List.getElem_of_mem hr
  rw [List.getElem_modify]
  have hi' : i < s.length := by simpa using hi
  have := h _ (List.getElem_mem hi')
  split <;> simpa using this
/-- The bytes that came in stand. -/
theorem OpRow.Ok.on {w w' : World} {o : OpRow} (h : o.Ok w w.heap.size) (hb : Below w.heap.size w w') : o.Ok w' w'.heap.size := h.below hb
end Go.Proofs.Ytgegjoeggbhaeaa
