import Derived.Test.YtgegjoeggbhaeaaA4
import Derived.Scope
namespace Go.Proofs.Ytgegjoeggbhaeaa
open Go.RowKit Go.Conc

theorem wpN_scope {P : Program} {Q : Exit → Act → World → Prop} {a : Act} {w : World} {c : Code} (h : wpN P c (Exit.noGoto Q) a w) : wpN P (Code.scope c) Q a w := by
  intro b hb k cs
  obtain ⟨e, a₁, w₁, hq, harr⟩ := h b hb (.inScope c :: k) cs
  cases e with
  | normal => exact ⟨.normal, a₁, w₁, hq, .head step_scope (Steps.trans harr (.one step_inScope))⟩
  | exit id => exact ⟨.exit id, a₁, w₁, hq, fun k' hk => .head step_scope (harr k' (by simp [exitTo, hk]))⟩
  | goto l => exact hq.elim
  | ret => exact ⟨_, a₁, w₁, hq, .of_steps (.one step_scope) harr⟩
  | panic ch => exact ⟨_, a₁, w₁, hq, .of_steps (.one step_scope) harr⟩
  | outgrown => exact ⟨_, a₁, w₁, hq, .of_steps (.one step_scope) harr⟩

/-- Blocks in F may turn, and new ones come. -/
structure Only (w w' : World) (F : Nat → Prop) : Prop where
  os : w'.os = w.os
  tape : w'.tape = w.tape
  output : w'.output = w.output
  size : w.heap.size ≤ w'.heap.size
  block : ∀ j < w.heap.size, ¬ F j → w'.heap[j]? = w.heap[j]?
theorem Only.refl (w : World) (F : Nat → Prop) : Only w w F := ⟨rfl, rfl, rfl, Nat.le_refl _, fun _ _ _ => rfl⟩
theorem Only.trans {w a b : World} {F G : Nat → Prop} (h : Only w a F) (k : Only a b G) (hG : ∀ j, G j → F j ∨ w.heap.size ≤ j) : Only w b F :=
  ⟨k.os.trans h.os, k.tape.trans h.tape, k.output.trans h.output, Nat.le_trans h.size k.size, fun j hj hn => (k.block j (Nat.lt_of_lt_of_le hj h.size) (fun hg => (hG j hg).elim hn (by omega))).trans (h.block j hj hn)⟩

/-- What a closure is to look: it answers keep; what it has seen is J's; the blocks F are its own. -/
structure Asks (f : FuncId) (cap : Value) (keep : Nat → Bool) (J : World → List Nat → (Nat → Prop) → Prop) : Prop where
  stay : ∀ {w w' : World} {seen : List Nat} {F : Nat → Prop}, J w seen F → (∀ j, F j → w'.heap[j]? = w.heap[j]?) → J w' seen F
  lt : ∀ {w : World} {seen : List Nat} {F : Nat → Prop} {j : Nat}, J w seen F → F j → j < w.heap.size
  call : ∀ {w : World} {seen : List Nat} {F : Nat → Prop} (n : Nat), J w seen F → seen.length < 1000 → Calls Try.prog f #[.int .i64 n, cap] w fun e w' => e = .returned (.bool (keep n)) ∧ ∃ F', J w' (seen ++ [n]) F' ∧ Only w w' F ∧ ∀ j, F' j → F j ∨ w.heap.size ≤ j

/-- The state inside look: what was seen, what of it is kept, what the channel holds. -/
structure In1 (w0 w : World) (g h : Nat) (v : Value) (J : World → List Nat → (Nat → Prop) → Prop) (F0 : Nat → Prop) (seen kept rest : List Nat) (lv : Value) : Prop where
  top : w.heap[g]? = some (.cells #[v, .chan (some h)] 52 (0, 0))
  ch : ∃ n r, w.heap[h]? = some (.chan 200 (nums rest).toArray false n r false)
  only : Only w0 w fun j => F0 j ∨ j = h
  row : Own w w0.heap.size 3 1 lv kept.length (nums kept)
  J : ∃ F, J w seen F ∧ (∀ j, F j → F0 j ∨ w0.heap.size ≤ j) ∧ ∀ j, lv.ownBlock = some j → ¬ F j

section
variable {w0 w w1 w2 w3 : World} {g h : Nat} {v lv lv' : Value} {keep : Nat → Bool} {J : World → List Nat → (Nat → Prop) → Prop} {F0 : Nat → Prop} {seen kept rest : List Nat} {f : FuncId} {cap : Value}
theorem In1.c1 (i : In1 w0 w g h v J F0 seen kept rest lv) : w.cell? ⟨g, 1, none⟩ = some (.chan (some h)) := by rw [cell_of_row w g 1 _ 52 (0, 0) i.top]; rfl
theorem In1.first (A : Asks f cap keep J) {F : Nat → Prop} (top : w.heap[g]? = some (.cells #[v, .chan (some h)] 52 (0, 0))) (ch : ∃ n r, w.heap[h]? = some (.chan 200 (nums rest).toArray false n r false)) (j : J w [] F) : In1 w w g h v J F [] [] rest (.slice none 0 0) :=
  ⟨top, ch, Only.refl _ _, Own.nil_ _ _ _ _, F, j, fun _ hj => .inl hj, fun j hj => by simp [Value.ownBlock] at hj⟩
/-- The channel alone turns. -/
theorem In1.turn (A : Asks f cap keep J) (i : In1 w0 w g h v J F0 seen kept rest lv) {rest' : List Nat} (c : Chg w w1 h (nums rest')) (gh : g ≠ h) (hF : ¬ F0 h) (hh : h < w0.heap.size) : In1 w0 w1 g h v J F0 seen kept rest' lv := by
  obtain ⟨F, j1, j2, j3⟩ := i.J
  refine ⟨(c.block g gh).trans i.top, c.ch, ⟨c.os.trans i.only.os, c.tape.trans i.only.tape, c.output.trans i.only.output, by rw [c.size]; exact i.only.size, fun j hj hn => (c.block j (fun e => hn (.inr e))).trans (i.only.block j hj hn)⟩, i.row.keep fun j hj => c.block j (fun e => ?_), F, A.stay j1 (fun j hj => c.block j (fun e => ?_)), j2, j3⟩
  · have := (i.row.block j hj).1; omega
  · subst e
    rcases j2 j hj with h1 | h1
    · exact hF h1
    · omega
/-- The closure was asked. -/
theorem In1.asked (i : In1 w0 w g h v J F0 seen kept rest lv) (n : Nat) {F F' : Nat → Prop} (hj2 : ∀ j, F j → F0 j ∨ w0.heap.size ≤ j) (hj3 : ∀ j, lv.ownBlock = some j → ¬ F j) (hJ : J w1 (seen ++ [n]) F') (o : Only w w1 F) (hF' : ∀ j, F' j → F j ∨ w.heap.size ≤ j)
    (hg : g < w0.heap.size) (hh : h < w0.heap.size) (Fg : ¬ F0 g) (Fh : ¬ F0 h) : In1 w0 w1 g h v J F0 (seen ++ [n]) kept rest lv := by
  have hs := i.only.size
  have out : ∀ j < w0.heap.size, ¬ F0 j → w1.heap[j]? = w.heap[j]? := fun j hj hn => o.block j (by omega) fun hf => (hj2 j hf).elim hn (by omega)
  refine ⟨(out g hg Fg).trans i.top, ?_, ⟨o.os.trans i.only.os, o.tape.trans i.only.tape, o.output.trans i.only.output, Nat.le_trans hs o.size, fun j hj hn => (out j hj (fun e => hn (.inl e))).trans (i.only.block j hj hn)⟩, i.row.keep fun j hj => o.block j (i.row.block j hj).2 (hj3 j hj), F', hJ, fun j hj => ?_, fun j hj hf => ?_⟩
  · obtain ⟨n, r, e⟩ := i.ch; exact ⟨n, r, (out h hh Fh).trans e⟩
  · rcases hF' j hj with h1 | h1
    · exact hj2 j h1
    · exact .inr (by omega)
  · rcases hF' j hf with h1 | h1
    · exact hj3 j hj h1
    · have := (i.row.block j hj).2; omega
/-- The row grows. -/
theorem In1.grow (A : Asks f cap keep J) (i : In1 w0 w g h v J F0 seen kept rest lv) {n : Nat} {cs : Array Value} {t : TypeId} (o : Own w1 w0.heap.size 3 1 lv' (kept.length + 1) (nums kept ++ [.int .i64 n])) (gr : (w.alloc (.cells cs t)).grownBy w1 lv.ownBlock) (at_ : lv'.ownBlock = lv.ownBlock ∨ lv'.ownBlock = some (w.heap.size + 1))
    (hg : g < w0.heap.size) (hh : h < w0.heap.size) : In1 w0 w1 g h v J F0 seen (kept ++ [n]) rest lv' := by
  obtain ⟨F, j1, j2, j3⟩ := i.J
  have hs := i.only.size
  have sz : w.heap.size + 1 ≤ w1.heap.size := by have := gr.size; simpa using this
  have old : ∀ j < w.heap.size, lv.ownBlock ≠ some j → w1.heap[j]? = w.heap[j]? := fun j hj hn => (gr.block j (by simp; omega) (fun e => hn e.symm)).trans (heap_old _ _ _ hj)
  have out : ∀ j < w0.heap.size, w1.heap[j]? = w.heap[j]? := fun j hj => old j (by omega) fun e => by have := (i.row.block j e).1; omega
  refine ⟨(out g hg).trans i.top, ?_, ⟨gr.os.trans i.only.os, gr.tape.trans i.only.tape, gr.output.trans i.only.output, by omega, fun j hj hn => (out j hj).trans (i.only.block j hj hn)⟩, ?_, F, A.stay j1 fun j hj => old j (A.lt j1 hj) fun e => j3 j e hj, j2, fun j hj hf => ?_⟩
  · obtain ⟨n, r, e⟩ := i.ch; exact ⟨n, r, (out h hh).trans e⟩
  · simpa [nums] using o
  · rcases at_ with e | e
    · exact j3 j (e ▸ hj) hf
    · have := A.lt j1 hf
      rw [e] at hj
      injection hj
      omega
end
end Go.Proofs.Ytgegjoeggbhaeaa
