/-
  Channels in one goroutine, for a walk by rules: 'wpN' is the walk's own statement for frames that are no package's start; rules for a send, a receive, a select with a default.
-/
import Derived.Test.YtgegjoeggbhaeaaKit
import Derived.Conc.LoneSelect
namespace Go.Proofs.Ytgegjoeggbhaeaa
open Go.RowKit Go.Conc

/-- The walk's statement, for every frame but one of the start. -/
def wpN (P : Program) (c : Code) (Q : Exit → Act → World → Prop) (a : Act) (w : World) : Prop :=
  ∀ (b : Frame), b.kind ≠ .early → ∀ (k : List Item) (cs : List Frame), ∃ e a' w', Q e a' w' ∧ Arrives P (lone (b.at a (.code c :: k)) cs w) b k cs e a' w'

section
variable {P : Program} {Q : Exit → Act → World → Prop} {a : Act} {w : World}
theorem wpN_of_wp {c : Code} (h : c.wp P Q a w) : wpN P c Q a w := fun b _ k cs => h b k cs
theorem wpN_mono {c : Code} {Q' : Exit → Act → World → Prop} (h : wpN P c Q a w) (hq : ∀ e a w, Q e a w → Q' e a w) : wpN P c Q' a w :=
  fun b hb k cs => let ⟨e, a', w', q, r⟩ := h b hb k cs; ⟨e, a', w', hq _ _ _ q, r⟩
theorem wpN_seq {x y : Code} (h : wpN P x (Exit.then (fun a w => wpN P y Q a w) Q) a w) : wpN P (Code.seq x y) Q a w := by
  intro b hb k cs
  obtain ⟨e, a₁, w₁, hq, harr⟩ := h b hb (.code y :: k) cs
  cases e with
  | normal =>
    obtain ⟨e₂, a₂, w₂, hq₂, harr₂⟩ := hq b hb k cs
    exact ⟨e₂, a₂, w₂, hq₂, .of_steps (.head step_seq harr) harr₂⟩
  | exit id => exact ⟨_, a₁, w₁, hq, .of_steps (.one step_seq) (.pass (x := .code y) rfl (fun _ _ => .inl (by simp)) harr)⟩
  | goto l => exact ⟨_, a₁, w₁, hq, .of_steps (.one step_seq) (.pass (x := .code y) rfl (fun _ _ => .inl (by simp)) harr)⟩
  | ret => exact ⟨_, a₁, w₁, hq, .of_steps (.one step_seq) (.pass (x := .code y) rfl (fun _ _ => .inl (by simp)) harr)⟩
  | panic ch => exact ⟨_, a₁, w₁, hq, .of_steps (.one step_seq) (.pass (x := .code y) rfl (fun _ _ => .inl (by simp)) harr)⟩
  | outgrown => exact ⟨_, a₁, w₁, hq, .of_steps (.one step_seq) (.pass (x := .code y) rfl (fun _ _ => .inl (by simp)) harr)⟩
theorem wpN_cond {c : Operand} {x y : Code} {t : Bool} (hc : a.eval c = .bool t) (h : wpN P (if t then x else y) Q a w) : wpN P (Code.cond c x y) Q a w :=
  fun b hb k cs => let ⟨e, a', w', q, r⟩ := h b hb k cs; ⟨e, a', w', q, .of_steps (.one (step_cond hc)) r⟩
theorem wpN_block {id : Nat} {c : Code} (h : wpN P c (Exit.inBlock id Q) a w) : wpN P (Code.block id c) Q a w := by
  intro b hb k cs
  obtain ⟨e, a₁, w₁, hq, harr⟩ := h b hb (.inBlock id :: k) cs
  cases e with
  | normal => exact ⟨.normal, a₁, w₁, hq, .head step_block (Steps.trans harr (.one step_inBlock))⟩
  | exit id' =>
    by_cases hid : id' = id
    · simp only [Exit.inBlock, hid, if_true] at hq
      exact ⟨.normal, a₁, w₁, hq, .head step_block (harr k (by simp [exitTo, hid]))⟩
    · simp only [Exit.inBlock, hid, if_false] at hq
      refine ⟨.exit id', a₁, w₁, hq, fun k' hk => .head step_block (harr k' ?_)⟩
      have : (id == id') = false := by simp; exact fun h => hid h.symm
      simp [exitTo, this, hk]
  | goto l => exact ⟨_, a₁, w₁, hq, fun k' hk => .head step_block (harr k' (by simp [gotoIn, hk]))⟩
  | ret => exact ⟨_, a₁, w₁, hq, .of_steps (.one step_block) harr⟩
  | panic ch => exact ⟨_, a₁, w₁, hq, .of_steps (.one step_block) harr⟩
  | outgrown => exact ⟨_, a₁, w₁, hq, .of_steps (b := b) (k := k) (cs := cs) (e := .outgrown) (.one step_block) harr⟩
theorem wpN_loop {c : Code} (I : Act → World → Nat → Prop) (n₀ : Nat) (h₀ : I a w n₀)
    (round : ∀ n a w, I a w n → wpN P c (Exit.then (fun a' w' => ∃ m, m < n ∧ I a' w' m) Q) a w) : wpN P (Code.loop c) Q a w := by
  intro b hb k cs
  have key : ∀ n a w, I a w n → ∃ e a' w', Q e a' w' ∧ Arrives P (lone (b.at a (.code c :: .inLoop c :: k)) cs w) b k cs e a' w' := by
    intro n
    induction n using Nat.strongRecOn with
    | _ n ih =>
      intro a w hI
      obtain ⟨e, a₁, w₁, hq, harr⟩ := round n a w hI b hb (.inLoop c :: k) cs
      cases e with
      | normal =>
        obtain ⟨m, hlt, hI₁⟩ := hq
        obtain ⟨e₂, a₂, w₂, hq₂, harr₂⟩ := ih m hlt a₁ w₁ hI₁
        exact ⟨e₂, a₂, w₂, hq₂, .of_steps (Steps.trans harr (.one step_inLoop)) harr₂⟩
      | exit id => exact ⟨_, a₁, w₁, hq, .pass (x := .inLoop c) rfl (fun _ _ => .inl (by simp)) harr⟩
      | goto l => exact ⟨_, a₁, w₁, hq, .pass (x := .inLoop c) rfl (fun _ _ => .inl (by simp)) harr⟩
      | ret => exact ⟨_, a₁, w₁, hq, .pass (x := .inLoop c) rfl (fun _ _ => .inl (by simp)) harr⟩
      | panic ch => exact ⟨_, a₁, w₁, hq, .pass (x := .inLoop c) rfl (fun _ _ => .inl (by simp)) harr⟩
      | outgrown => exact ⟨_, a₁, w₁, hq, .pass (x := .inLoop c) rfl (fun _ _ => .inl (by simp)) harr⟩
  obtain ⟨e, a', w', hq, harr⟩ := key n₀ a w h₀
  exact ⟨e, a', w', hq, .of_steps (.one step_loop) harr⟩

/-- A region whose first operation communicates. -/
theorem wpN_region_comm {id : Nat} {ops : Array Oper} {o : Oper} {v : Value} {w' : World} {n : Nat} (hn : ops.size = n + 1) (ho : ops[0]? = some o)
    (hs : ∀ (b : Frame), b.kind ≠ .early → ∀ (rest : List Nat) (k : List Item) (cs : List Frame), step P (lone (b.at a (.inRegion ops (0 :: rest) :: k)) cs w) = .next (lone ((b.at a (.inRegion ops (0 :: rest) :: k)).finish v) cs w'))
    (h : wpList P ops Q (ops.toList.drop 1) (a.put o.dst v) w') : wpN P (Code.region id ops false) Q a w := by
  intro b hb k cs
  have hr : List.range ops.size = 0 :: List.range' 1 n := by rw [hn, List.range_eq_range', List.range'_succ]
  have hw : wpOps P ops Q (List.range' 1 n) (a.put o.dst v) w' := by
    have e := wpOps_eq_wpList (P := P) (ops := ops) (Q := Q) (ops.toList.drop 1) 1 (fun j => by rw [List.getElem?_drop, Array.getElem?_toList])
    have hl : (ops.toList.drop 1).length = n := by rw [List.length_drop, Array.length_toList, hn]; omega
    rw [hl] at e
    rw [e]
    exact h
  obtain ⟨e, a', w'', q, r⟩ := wp_ops _ _ _ hw b k cs
  refine ⟨e, a', w'', q, .of_steps (.one step_region) (.of_steps (.one ?_) r)⟩
  rw [hr, hs b hb, Frame.finish_at, ho]
  rfl
end
end Go.Proofs.Ytgegjoeggbhaeaa
