import Derived.Test.YtgegjoeggbhaeaaA8
namespace Go.Proofs.Ytgegjoeggbhaeaa
open Go.RowKit Go.Conc

theorem Own.set {w : World} {base e k n g off cap : Nat} {xs : List Value} (h : Own w base e k (.slice (some ⟨g, off, none⟩) n cap) n xs) (i : Nat) (hi : i < n * k) (u : Value) : Own (w.setCell ⟨g, off + i, none⟩ u) base e k (.slice (some ⟨g, off, none⟩) n cap) n (xs.set i u) := by
  refine ⟨by rw [List.length_set]; exact h.1, ?_⟩
  rcases h.2 with ⟨h0, _⟩ | ⟨g', off', cap', cur, hv, h1, h2, h3, h4, h5, h6⟩
  · cases h0
  · injection hv with hA _ hc
    injection hA with hA
    injection hA with hg ho _
    subst hg ho hc
    refine .inr ⟨g, off, cap, cur.setIfInBounds (off + i) u, rfl, h1, heap_setCell_same _ _ _ _ _ _ h2, h3, h4, by simpa using h5, ?_⟩
    rw [← h6]
    simp only [Array.toList_setIfInBounds]
    rw [List.drop_set, if_neg (by omega), List.take_set, Nat.add_sub_cancel_left]

theorem flat_set {α : Type} (enc : α → List Value) (k : Nat) (hk : ∀ x, (enc x).length = k) : ∀ (l : List α) (i j : Nat) (x y : α) (u : Value), l[i]? = some x → j < k → enc y = (enc x).set j u → (l.flatMap enc).set (i * k + j) u = (l.set i y).flatMap enc := by
  intro l
  induction l with
  | nil => intro i j x y u h; simp at h
  | cons z l ih =>
    intro i j x y u h hj he
    cases i with
    | zero =>
      simp at h
      subst h
      rw [List.flatMap_cons, Nat.zero_mul, Nat.zero_add, List.set_append_left _ _ (by rw [hk]; exact hj), List.set_cons_zero, List.flatMap_cons, he]
    | succ i =>
      rw [List.flatMap_cons, List.set_append_right _ _ (by rw [hk, Nat.succ_mul]; omega), hk, List.set_cons_succ, List.flatMap_cons]
      have e : (i + 1) * k + j - k = i * k + j := by rw [Nat.succ_mul]; omega
      rw [e, ih i j x y u (by simpa using h) hj he]

/-- What row k of a table reads. -/
theorem Tab.cells {w : World} {B b off c : Nat} {ps : List (Row × Value)} (t : Tab w B (.slice (some ⟨b, off, none⟩) ps.length c) ps) (k : Nat) (p : Row × Value) (hk : ps[k]? = some p) :
    w.cell? ⟨b, off + k * 3, none⟩ = some (.int .i64 p.1.to) ∧ w.cell? ⟨b, off + k * 3 + 1, none⟩ = some p.2 ∧ w.cell? ⟨b, off + k * 3 + 2, none⟩ = some (.bool p.1.gone) ∧ b < w.heap.size := by
  have hlt : k < ps.length := (List.getElem?_eq_some_iff.1 hk).1
  obtain ⟨b', off', e, hb, hc⟩ := t.own.rd.2 (by omega)
  injection e with e
  injection e with e1 e2 _
  subst e1 e2
  refine ⟨?_, ?_, ?_, hb⟩
  · have := hc _ _ (flat_get encP 3 encP_len ps k p hk 0 _ rfl)
    simpa using this
  · have := hc _ _ (flat_get encP 3 encP_len ps k p hk 1 _ rfl)
    simpa [Nat.add_assoc] using this
  · have := hc _ _ (flat_get encP 3 encP_len ps k p hk 2 _ rfl)
    simpa [Nat.add_assoc] using this

def goneP (p : Row × Value) : Row × Value := ({ p.1 with gone := true }, p.2)

theorem map_gone (ps : List (Row × Value)) (k : Nat) (p : Row × Value) (hk : ps[k]? = some p) : (ps.set k (goneP p)).map (·.1) = loseAt (ps.map (·.1)) k := by
  apply List.ext_getElem?
  intro i
  unfold loseAt
  rw [List.getElem?_map, List.getElem?_set, List.getElem?_modify, List.getElem?_map]
  by_cases e : k = i
  · subst e
    obtain ⟨h1, rfl⟩ := List.getElem?_eq_some_iff.1 hk
    simp [h1, goneP]
  · simp [e]

/-- A row of a table goes. -/
theorem Tab.gone {w : World} {B b off c : Nat} {ps : List (Row × Value)} (t : Tab w B (.slice (some ⟨b, off, none⟩) ps.length c) ps) (k : Nat) (p : Row × Value) (hk : ps[k]? = some p) :
    Tab (w.setCell ⟨b, off + k * 3 + 2, none⟩ (.bool true)) B (.slice (some ⟨b, off, none⟩) ps.length c) (ps.set k (goneP p)) := by
  have hlt : k < ps.length := (List.getElem?_eq_some_iff.1 hk).1
  refine ⟨?_, fun q hq => ?_⟩
  · have := t.own.set (k * 3 + 2) (by omega) (.bool true)
    rw [flat_set encP 3 encP_len ps k 2 p (goneP p) (.bool true) hk (by omega) rfl] at this
    rw [List.length_set, Nat.add_assoc]
    exact this
  · have hbod : ∀ q ∈ ps, Own (w.setCell ⟨b, off + k * 3 + 2, none⟩ (.bool true)) B 5 1 q.2 q.1.body.length (byt q.1.body) := fun q hq => (t.bod q hq).keep fun j hj => heap_setCell_other _ _ _ _ (by
      intro e0
      obtain ⟨cur, hc⟩ := (t.bod q hq).type hj
      obtain ⟨cur', hc'⟩ := t.own.type (j := b) (by simp [Value.ownBlock])
      rw [e0] at hc
      rw [hc'] at hc; injection hc with hc; injection hc with _ hc _; cases hc)
    rcases List.mem_or_eq_of_mem_set hq with h1 | h1
    · exact hbod q h1
    · subst h1
      exact hbod p (List.mem_of_getElem? hk)

theorem lose_law {w w' : World} {B g h b off n c : Nat} {s : List Row} {r : Row} {k : Nat} (a : Air w B g h (.slice (some ⟨b, off, none⟩) n c) s) (hn : n = s.length) (t : Turn w w' g h (.slice (some ⟨b, off, none⟩) n c) (.slice (some ⟨b, off, none⟩) n c)) (hb : ∀ j < w.heap.size, j ≠ h → w'.heap[j]? = w.heap[j]?)
    (hch : ∃ m r, w'.heap[h]? = some (.chan 200 (nums ((flyOf s).filter (fun i => i != k))).toArray false m r false)) (hk : s[k]? = some r) :
    Air (w'.setCell ⟨b, off + k * 3 + 2, none⟩ (.bool true)) B g h (.slice (some ⟨b, off, none⟩) n c) (loseAt s k) ∧ Turn w (w'.setCell ⟨b, off + k * 3 + 2, none⟩ (.bool true)) g h (.slice (some ⟨b, off, none⟩) n c) (.slice (some ⟨b, off, none⟩) n c) := by
  have vb : (Value.slice (some ⟨b, off, none⟩) n c).ownBlock = some b := by simp [Value.ownBlock]
  have bg : g ≠ b := fun e => a.vg (by rw [vb, e])
  have bh : h ≠ b := fun e => a.vh (by rw [vb, e])
  have other : ∀ j, j ≠ b → (w'.setCell ⟨b, off + k * 3 + 2, none⟩ (.bool true)).heap[j]? = w'.heap[j]? := fun j hj => heap_setCell_other _ _ _ _ hj
  obtain ⟨ps, rfl, tb⟩ := a.tab
  obtain ⟨p, hp, rfl⟩ : ∃ p, ps[k]? = some p ∧ p.1 = r := by rw [List.getElem?_map] at hk; exact Option.map_eq_some_iff.1 hk
  have hl : n = ps.length := by rw [hn, List.length_map]
  subst hl
  have tb' : Tab w' B (.slice (some ⟨b, off, none⟩) ps.length c) ps := tb.keep (fun j hj => hb j (tb.lt j hj).2 (fun e => a.vh (e ▸ hj))) fun j cur hc => hb j (Array.getElem?_eq_some_iff.1 hc).1 (by
    rintro rfl
    obtain ⟨_, _, e⟩ := a.ch
    rw [e] at hc; injection hc with hc; cases hc)
  refine ⟨⟨(other g bg).trans ((hb g a.lt a.ne).trans a.top), ?_, ⟨_, map_gone ps k p hp, tb'.gone k p hp⟩, a.bg, a.bh, ?_, ?_, ?_⟩, ⟨t.os, t.tape, t.output, by rw [World.size_setCell]; exact t.size, fun j hj h1 h2 h3 => ?_, .inl rfl⟩⟩
  · obtain ⟨m, r, e⟩ := hch
    exact ⟨m, r, by rw [other h bh, e, flyOf_lose]⟩
  · have := a.few; unfold loseAt; rw [List.length_modify]; exact this
  · intro r hr
    unfold loseAt at hr
    obtain ⟨i, hi, rfl⟩ := List.getElem_of_mem hr
    rw [List.getElem_modify]
    have hi' : i < (ps.map (·.1)).length := by simpa using hi
    have := a.small _ (List.getElem_mem hi')
    split <;> simpa using this
  · rw [flyOf_lose]
    exact Nat.le_trans (List.length_filter_le _ _) a.room
  · have : j ≠ b := fun e => h3 (by rw [vb, e])
    exact (other j this).trans (t.block j hj h1 h2 h3)
end Go.Proofs.Ytgegjoeggbhaeaa
