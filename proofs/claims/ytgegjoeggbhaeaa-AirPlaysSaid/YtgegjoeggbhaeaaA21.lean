import Derived.Test.YtgegjoeggbhaeaaA19
namespace Go.Proofs.Ytgegjoeggbhaeaa
open Go.RowKit Go.Conc

/-- An air (rows s) and the reference's (rows z) beside it. -/
structure Two (B : Nat) (w : World) (g h : Nat) (v : Value) (s : List Row) (p : Nat) (u : Value) (z : List Row) : Prop where
  air : Air w B g h v s
  ref : Ref w B p u z
  apart : ∀ j, v.ownBlock = some j → u.ownBlock ≠ some j

section
variable {w w' : World} {B g h p : Nat} {v v' u u' : Value} {s s' z z' : List Row}
theorem Air.vtype (a : Air w B g h v s) {j : Nat} (hj : v.ownBlock = some j) : ∃ cur, w.heap[j]? = some (.cells cur 55 (0, 0)) := by
  obtain ⟨ps, _, t⟩ := a.tab
  exact t.own.type hj
theorem Air.keep (a : Air w B g h v s) (hg : w'.heap[g]? = w.heap[g]?) (hh : w'.heap[h]? = w.heap[h]?) (hv : ∀ j, v.ownBlock = some j → w'.heap[j]? = w.heap[j]?)
    (h5 : ∀ (j : Nat) (cur : Array Value), w.heap[j]? = some (.cells cur 5 (0, 0)) → w'.heap[j]? = w.heap[j]?) : Air w' B g h v s := by
  obtain ⟨ps, e, t⟩ := a.tab
  obtain ⟨n, r, c⟩ := a.ch
  exact ⟨hg.trans a.top, ⟨n, r, hh.trans c⟩, ⟨ps, e, t.keep hv h5⟩, a.bg, a.bh, a.few, a.small, a.room⟩
theorem ne_of_cells {j k : Nat} {c1 c2 : Array Value} {e1 e2 : TypeId} {f1 f2 : Nat × Nat} (h1 : w.heap[j]? = some (.cells c1 e1 f1)) (h2 : w.heap[k]? = some (.cells c2 e2 f2)) (he : e1 ≠ e2) : j ≠ k := by
  rintro rfl
  rw [h1] at h2
  injection h2 with h2
  injection h2 with _ h2 _
  exact he h2
theorem ne_of_chan {j k : Nat} {c1 : Array Value} {e1 : TypeId} {f1 : Nat × Nat} {cap n r : Nat} {buf : Array Value} {cl tm : Bool} (h1 : w.heap[j]? = some (.cells c1 e1 f1)) (h2 : w.heap[k]? = some (.chan cap buf cl n r tm)) : j ≠ k := by
  rintro rfl
  rw [h1] at h2
  injection h2 with h2
  cases h2
/-- The air turns. -/
theorem Two.stepA (t : Two B w g h v s p u z) (a : Air w' B g h v' s') (tn : Turn w w' g h v v') : Two B w' g h v' s' p u z := by
  obtain ⟨n, r, hch⟩ := t.air.ch
  refine ⟨a, t.ref.keep ?_ (fun j hj => ?_) (fun j cur fr hc => t.air.beside tn hc (by decide) (by decide)), fun j hj e => ?_⟩
  · refine tn.block p t.ref.lt (ne_of_cells t.ref.top t.air.top (by decide)) (ne_of_chan t.ref.top hch) ?_
    intro e
    obtain ⟨cur, hc⟩ := t.air.vtype e
    exact ne_of_cells t.ref.top hc (by decide) rfl
  · obtain ⟨cur, hc⟩ := t.ref.vtype hj
    exact tn.block j (t.ref.vlt j hj).2 (ne_of_cells hc t.air.top (by decide)) (ne_of_chan hc hch) (fun e => t.apart j e hj)
  · rcases tn.row with r | r
    · exact t.apart j (r ▸ hj) e
    · have := r j hj
      have := (t.ref.vlt j e).2
      omega
/-- The reference turns. -/
theorem Two.stepR (t : Two B w g h v s p u z) (a : Ref w' B p u' z') (tn : Turn w w' p p u u') : Two B w' g h v s p u' z' := by
  obtain ⟨n, r, hch⟩ := t.air.ch
  have hp : ∀ j, u.ownBlock = some j → j ≠ g ∧ j ≠ h := fun j hj => by
    obtain ⟨cur, hc⟩ := t.ref.vtype hj
    exact ⟨ne_of_cells hc t.air.top (by decide), ne_of_chan hc hch⟩
  refine ⟨t.air.keep ?_ ?_ (fun j hj => ?_) (fun j cur hc => t.ref.beside tn hc (by decide) (by decide)), a, fun j hj e => ?_⟩
  · have h1 := ne_of_cells t.air.top t.ref.top (by decide)
    exact tn.block g t.air.lt h1 h1 (fun e => (hp g e).1 rfl)
  · have h1 := (ne_of_chan t.ref.top hch).symm
    exact tn.block h t.air.lth h1 h1 (fun e => (hp h e).2 rfl)
  · obtain ⟨cur, hc⟩ := t.air.vtype hj
    have h1 := ne_of_cells hc t.ref.top (by decide)
    exact tn.block j (t.air.vlt j hj).2 h1 h1 (t.apart j hj)
  · rcases tn.row with r | r
    · exact t.apart j hj (r ▸ e)
    · have := r j e
      have := (t.air.vlt j hj).2
      omega
theorem Two.on (t : Two B w g h v s p u z) (b : Below w.heap.size w w') : Two B w' g h v s p u z := ⟨t.air.below b, t.ref.below b, t.apart⟩
/-- A table of the law's own stands when the air turns. -/
theorem Tab.turn {N : Nat} {lv : Value} {qs : List (Row × Value)} (tb : Tab w N lv qs) (a : Air w B g h v s) (tn : Turn w w' g h v v') (hg : g < N) (hh : h < N) (hv : ∀ j, v.ownBlock = some j → j < N) : Tab w' N lv qs := by
  refine tb.keep (fun j hj => ?_) (fun j cur hc => a.beside tn hc (by decide) (by decide))
  have h1 := tb.lt j hj
  exact tn.block j h1.2 (by omega) (by omega) (fun e => by have := hv j e; omega)
end

section
variable {w : World} {N : Nat} {lv : Value} {qs : List (Row × Value)} {s : List Row}
/-- What row k of All's answer reads. -/
theorem Tab.row (t : Tab w N lv qs) (hq : qs.map (·.1) = s) {A : Option Addr} {c : Nat} (e : lv = .slice A s.length c) {k : Nat} {r : Row} (hk : s[k]? = some r) :
    ∃ b off bv, A = some ⟨b, off, none⟩ ∧ w.cell? ⟨b, off + k * 3, none⟩ = some (.int .i64 r.to) ∧ w.cell? ⟨b, off + k * 3 + 1, none⟩ = some bv ∧ w.cell? ⟨b, off + k * 3 + 2, none⟩ = some (.bool r.gone) ∧
      (∀ n, (convert 30 9 bv).run Try.prog (w.drewN n) = .ok (.string (strOfNums r.body)) (w.drewN n)) := by
  have hks : k < s.length := (List.getElem?_eq_some_iff.1 hk).1
  subst e
  have hl : s.length = qs.length := by rw [← hq, List.length_map]
  rw [hl] at t
  obtain ⟨b, off, e, _, _⟩ := t.own.rd.2 (by omega)
  subst e
  obtain ⟨q, hp, rfl⟩ : ∃ p, qs[k]? = some p ∧ p.1 = r := by rw [← hq, List.getElem?_map] at hk; exact Option.map_eq_some_iff.1 hk
  obtain ⟨q1, q2, q3, _⟩ := t.cells k q hp
  refine ⟨b, off, q.2, rfl, q1, q2, q3, fun n => ?_⟩
  have ho := t.bod q (List.mem_of_getElem? hp)
  have ho' : Own (w.drewN n) N 5 1 q.2 q.1.body.length (byt q.1.body) := ho.keep fun _ _ => rfl
  obtain ⟨A, c, e, _⟩ := ho'.form
  rw [e] at ho' ⊢
  exact conv_own ho'
end
end Go.Proofs.Ytgegjoeggbhaeaa
