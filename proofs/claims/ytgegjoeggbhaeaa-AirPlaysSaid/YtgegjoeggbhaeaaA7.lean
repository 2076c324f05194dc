import Derived.Test.YtgegjoeggbhaeaaA6
namespace Go.Proofs.Ytgegjoeggbhaeaa
open Go.RowKit Go.Conc

/-- Flying's closure: what it saw lies in the slice of variable p. -/
def JF (p b : Nat) (w : World) (seen : List Nat) (F : Nat → Prop) : Prop :=
  ∃ lv, w.heap[p]? = some (.cells #[lv] 46 (0, 0)) ∧ Own w b 3 1 lv seen.length (nums seen) ∧ b ≤ p ∧ ∀ j, F j ↔ j = p ∨ lv.ownBlock = some j

/-- Lose's closure: it reads its variable p. -/
def JL (p : Nat) (n : Int) (w : World) (_seen : List Nat) (F : Nat → Prop) : Prop :=
  w.heap[p]? = some (.cells #[.int .i64 n] 3 (0, 0)) ∧ ∀ j, F j ↔ j = p

set_option maxHeartbeats 1000000 in
theorem asks_lose (p : Nat) (n : Int) : Asks 23 (.pointer (some ⟨p, 0, none⟩)) (fun k => (k : Int) != n) (JL p n) where
  stay := fun {w w' seen F} j hk => ⟨(hk p ((j.2 p).2 rfl)).trans j.1, j.2⟩
  lt := fun {w seen F j} h hj => by obtain rfl := (h.2 j).1 hj; exact (Array.getElem?_eq_some_iff.1 h.1).1
  call := fun {w seen F} k j _ => by
    have c0 : w.cell? ⟨p, 0, none⟩ = some (.int .i64 n) := by rw [cell_of_row w p 0 _ 3 (0, 0) j.1]; rfl
    go_enter Try.func23, Try.ntmps23
    go_wp2
    go_ret
    exact ⟨by simp, F, j, Only.refl _ _, fun _ h => .inl h⟩

set_option maxHeartbeats 1000000 in
theorem asks_fly (p b : Nat) : Asks 24 (.pointer (some ⟨p, 0, none⟩)) (fun _ => true) (JF p b) where
  stay := fun {w w' seen F} j hk => by
    obtain ⟨lv, h1, h2, h3, h4⟩ := j
    refine ⟨lv, (hk p ((h4 p).2 (.inl rfl))).trans h1, h2.keep fun j hj => hk j ((h4 j).2 (.inr hj)), h3, h4⟩
  lt := fun {w seen F j} h hj => by
    obtain ⟨lv, h1, h2, h3, h4⟩ := h
    rcases (h4 j).1 hj with rfl | e
    · exact (Array.getElem?_eq_some_iff.1 h1).1
    · exact (h2.block j e).2
  call := fun {w seen F} k j hs => by
    obtain ⟨lv, h1, h2, h3, h4⟩ := j
    have c0 : w.cell? ⟨p, 0, none⟩ = some lv := by rw [cell_of_row w p 0 _ 46 (0, 0) h1]; rfl
    have hp := (Array.getElem?_eq_some_iff.1 h1).1
    obtain ⟨A, c, rfl, q1, q2, q3⟩ := h2.form
    obtain ⟨i0, hi, hz0, hz1, hz2⟩ := info_parts int_info
    have H1 := Lib.hid (And.intro h1 h2)
    have H4 := Lib.hid h4
    clear h1 h2 h4
    go_enter Try.func24, Try.ntmps24
    go_wp2_with (at_builtin; refine wpList_append_rd _ rfl (.tmp 4) (.tmp 6) 46 rfl b 3 i0 _ 1 8 Try.underlying46 hi hz0 hz1 hz2 rfl (by decide) (.slice A seen.length c) seen.length (nums seen) rfl (H1.out.2.alloc _) _ _ 1 1 [.int .i64 k] rfl (Rd.newE rfl rfl rfl rfl) (fun h => by cases h) (by simp; rfl) (by simp only [maxLen]; omega) (by omega) (by simp; omega) ?_; intro v4 w4 hown4 hg4 hat4; obtain ⟨A4, c4, rfl, r1, r2, r3⟩ := hown4.form; have top4 : w4.heap[p]? = some (.cells #[.slice A seen.length c] 46 (0, 0)) := (hg4.block p (by simp; omega) (fun e => by obtain ⟨cur, hc⟩ := H1.out.2.type e.symm; rw [H1.out.1] at hc; injection hc with hc; injection hc with _ hc _; cases hc)).trans ((heap_old _ _ _ hp).trans H1.out.1); have d0 : w4.cell? ⟨p, 0, none⟩ = some (.slice A seen.length c) := cell_of_row w4 p 0 _ 46 (0, 0) top4; have f0 : w4.frozen? ⟨p, 0, none⟩ = false := frozen_of_row w4 p 0 _ 46 top4; have T4 := Lib.hid top4; have O4 := Lib.hid (And.intro hown4 (And.intro hg4 hat4)); clear top4 hown4 hg4 hat4)
    go_ret
    obtain ⟨o1, g1, a1⟩ := O4.out
    have sz : w.heap.size + 1 ≤ w4.heap.size := by have := g1.size; simpa using this
    have ne : ∀ j, (Value.slice A seen.length c).ownBlock = some j → j ≠ p := by
      rintro j hj rfl
      obtain ⟨cur, hc⟩ := H1.out.2.type hj
      rw [H1.out.1] at hc; injection hc with hc; injection hc with _ hc _; cases hc
    have ne4 : ∀ j, (Value.slice A4 (seen.length + 1) c4).ownBlock = some j → j ≠ p := by
      intro j hj
      rcases a1 with e | e
      · exact ne j (e ▸ hj)
      · rw [e] at hj; injection hj with hj; simp at hj; omega
    refine ⟨rfl, fun j => j = p ∨ (Value.slice A4 (seen.length + 1) c4).ownBlock = some j, ⟨_, heap_setCell_same _ p 0 _ 46 _ T4.out, ?_, h3, fun _ => Iff.rfl⟩, ⟨g1.os, g1.tape, g1.output, ?_, fun j hj hn => ?_⟩, fun j hj => ?_⟩
    · rw [List.length_append, List.length_singleton]
      have e0 : nums (seen ++ [k]) = nums seen ++ [.int .i64 k] := by simp [nums]
      rw [e0]
      exact o1.keep fun j hj => heap_setCell_other _ _ _ _ (fun e => ne4 j hj e)
    · rw [World.size_setCell]; omega
    · have h1 : j ≠ p := fun e => hn ((H4.out j).2 (.inl e))
      have h2 : (Value.slice A seen.length c).ownBlock ≠ some j := fun e => hn ((H4.out j).2 (.inr e))
      exact (heap_setCell_other _ _ _ _ (fun e => h1 e)).trans ((g1.block j (by simp; omega) (fun e => h2 e.symm)).trans (heap_old _ _ _ hj))
    · rcases hj with rfl | hj
      · exact .inl ((H4.out _).2 (.inl rfl))
      · rcases a1 with e | e
        · exact .inl ((H4.out j).2 (.inr (e ▸ hj)))
        · rw [e] at hj; injection hj with hj; simp at hj; exact .inr (by omega)
end Go.Proofs.Ytgegjoeggbhaeaa
