import Derived.Test.YtgegjoeggbhaeaaA2
import Derived.Deep.RegionLaw
namespace Go.Proofs.Ytgegjoeggbhaeaa
open Go.RowKit Go.Conc

/-- Only the channel in block h turns: it holds buf. -/
structure Chg (w w' : World) (h : Nat) (buf : List Value) : Prop where
  os : w'.os = w.os
  tape : w'.tape = w.tape
  output : w'.output = w.output
  size : w'.heap.size = w.heap.size
  block : ∀ j, j ≠ h → w'.heap[j]? = w.heap[j]?
  ch : ∃ n r, w'.heap[h]? = some (.chan 200 buf.toArray false n r false)

theorem chg_set (w : World) (h : Nat) (buf : Array Value) (n r : Nat) (hl : h < w.heap.size) : Chg w (w.setChan h 200 buf false n r false) h buf.toList :=
  ⟨rfl, rfl, rfl, size_setChan .., fun j hj => by simp [World.setChan, Array.getElem?_setIfInBounds, Ne.symm hj], ⟨n, r, by rw [heap_setChan _ _ _ _ _ _ _ _ hl]⟩⟩

theorem chan_cell {w : World} {h : Nat} {cap n r : Nat} {buf : Array Value} {cl tm : Bool} (hh : w.heap[h]? = some (.chan cap buf cl n r tm)) (i : Nat) : w.cell? ⟨h, i, none⟩ = none := by
  simp [World.cell?, hh]

section
variable {w w' : World} {h : Nat} {buf : List Value} {cap n r : Nat} {bf : Array Value} {cl tm : Bool}
theorem Chg.cell (c : Chg w w' h buf) (hh : w.heap[h]? = some (.chan cap bf cl n r tm)) {b i : Nat} {v : Value} (hv : w.cell? ⟨b, i, none⟩ = some v) : w'.cell? ⟨b, i, none⟩ = some v := by
  have hb : b ≠ h := by
    rintro rfl
    rw [chan_cell hh] at hv
    cases hv
  rw [← hv]
  simp only [World.cell?, c.block b hb]
theorem Chg.rd (c : Chg w w' h buf) (hh : w.heap[h]? = some (.chan cap bf cl n r tm)) {B k m : Nat} {A : Option Addr} {xs : List Value} (hr : Rd w B k A m xs) : Rd w' B k A m xs :=
  ⟨hr.1, fun hm => by
    obtain ⟨b, off, e, hb, hc⟩ := hr.2 hm
    exact ⟨b, off, e, hb, fun j u hu => c.cell hh (hc j u hu)⟩⟩
theorem Chg.frozen (c : Chg w w' h buf) {g : Nat} {cs : Array Value} {e : TypeId} (hg : w.heap[g]? = some (.cells cs e (0, 0))) (i : Nat) (hgh : g ≠ h) : w'.frozen? ⟨g, i, none⟩ = false :=
  frozen_of_row w' g i cs e ((c.block g hgh).trans hg)
end

theorem post_law {w w1 w2 w3 w4 : World} {B g h : Nat} {v bv v3 : Value} {s : List Row} {to : Int} {body : List Int}
    (a : Air w B g h v s) (hB : B ≤ w.heap.size) (c : Chg w w1 h (nums (flyOf s ++ [s.length]))) (b2 : Below w1.heap.size w1 w2) (ob : Own w2 w1.heap.size 5 1 bv body.length (byt body))
    {ps : List (Row × Value)} (hps : ps.map (·.1) = s)
    (o3 : Own w3 B 55 3 v3 (s.length + 1) (ps.flatMap encP ++ [.int .i64 to, bv, .bool false])) (g3 : (w2.alloc (.cells #[.int .i64 to, bv, .bool false] 55)).grownBy w3 v.ownBlock)
    (at3 : v3.ownBlock = v.ownBlock ∨ v3.ownBlock = some (w2.heap.size + 1)) (tb : Tab w B v ps)
    (h4 : w4 = w3.setCell ⟨g, 0, none⟩ v3) (few : s.length < 1000) (hbody : body.length ≤ 5000) (room : (flyOf s).length < 200) :
    Air w4 B g h v3 (s ++ [⟨to, body, false⟩]) ∧ Turn w w4 g h v v3 := by
  have hg := a.lt
  have hh := a.lth
  have s2 := b2.size
  have hsz : w.heap.size ≤ w2.heap.size := by rw [c.size] at s2; omega
  have sz3 : w2.heap.size + 1 ≤ w3.heap.size := by have := g3.size; simpa using this
  -- the old blocks
  have old : ∀ j < w.heap.size, j ≠ h → v.ownBlock ≠ some j → w3.heap[j]? = w.heap[j]? := fun j hj h1 h2 =>
    (g3.block j (by simp; omega) (fun e => h2 e.symm)).trans ((heap_old _ _ _ (by omega)).trans ((b2.block j (by rw [c.size]; exact hj)).trans (c.block j h1)))
  have hch : ∃ n r, w3.heap[h]? = some (.chan 200 (nums (flyOf s ++ [s.length])).toArray false n r false) := by
    obtain ⟨n, r, e⟩ := c.ch
    exact ⟨n, r, (g3.block h (by simp; omega) (fun e => a.vh e.symm)).trans ((heap_old _ _ _ (by omega)).trans ((b2.block h (by rw [c.size]; exact hh)).trans e))⟩
  have top3 := (old g hg a.ne a.vg).trans a.top
  have v3g : v3.ownBlock ≠ some g := by
    rcases at3 with e | e
    · rw [e]; exact a.vg
    · rw [e]; intro e; injection e; omega
  have other : ∀ j, j ≠ g → w4.heap[j]? = w3.heap[j]? := fun j hj => by rw [h4]; exact heap_setCell_other _ _ _ _ (fun e => hj e)
  have top4 : w4.heap[g]? = some (.cells #[v3, .chan (some h)] 52 (0, 0)) := by rw [h4]; exact heap_setCell_same _ g 0 _ 52 _ top3
  subst hps
  refine ⟨⟨top4, ?_, ⟨ps ++ [(⟨to, body, false⟩, bv)], by simp, ⟨?_, ?_⟩⟩, a.bg, a.bh, by simp at few ⊢; omega, ?_, ?_⟩, ⟨?_, ?_, ?_, ?_, ?_, ?_⟩⟩
  · obtain ⟨n, r, e⟩ := hch
    refine ⟨n, r, ?_⟩
    rw [other h a.ne.symm, e, flyOf_push _ _ rfl]
  · have e0 : (ps ++ [((⟨to, body, false⟩ : Row), bv)]).flatMap encP = ps.flatMap encP ++ [.int .i64 to, bv, .bool false] := by simp [List.flatMap_append, encP]
    rw [e0, List.length_append, List.length_singleton]
    simp only [List.length_map] at o3
    refine o3.keep fun j hj => other j ?_
    rintro rfl
    exact v3g hj
  · intro p hp
    rcases List.mem_append.1 hp with hp | hp
    · refine (tb.bod p hp).keep fun j hj => ?_
      obtain ⟨cur, hc⟩ := (tb.bod p hp).type hj
      have hjg : j ≠ g := by
        rintro rfl
        rw [a.top] at hc; injection hc with hc; injection hc with _ hc _; cases hc
      have hjh : j ≠ h := by
        rintro rfl
        obtain ⟨_, _, e⟩ := a.ch
        rw [e] at hc; injection hc with hc; cases hc
      have hjv : v.ownBlock ≠ some j := by
        intro e
        obtain ⟨cur', hc'⟩ := tb.own.type e
        rw [hc] at hc'; injection hc' with hc'; injection hc' with _ hc' _; cases hc'
      exact (other j hjg).trans (old j (((tb.bod p hp).block j hj).2) hjh hjv)
    · obtain rfl := List.mem_singleton.1 hp
      refine (ob.keep (w' := w4) fun j hj => ?_).base_ fun j hj => by have := (ob.block j hj).1; rw [c.size] at this; omega
      have := ob.block j hj
      rw [c.size] at this
      refine (other j (by omega)).trans ((g3.block j (by simp; omega) ?_).trans (heap_old _ _ _ this.2))
      intro e
      have := (a.vlt j e.symm).2
      omega
  · intro r hr
    rcases List.mem_append.1 hr with hr | hr
    · exact a.small r hr
    · obtain rfl := List.mem_singleton.1 hr; exact hbody
  · rw [flyOf_push _ _ rfl]; simp; omega
  · rw [h4]; exact g3.os.trans (b2.os.trans c.os)
  · rw [h4]; exact g3.tape.trans (b2.tape.trans c.tape)
  · rw [h4]; exact g3.output.trans (b2.output.trans c.output)
  · rw [h4, World.size_setCell]; omega
  · intro j hj h1 h2 h3
    exact (other j h1).trans (old j hj h2 h3)
  · rcases at3 with e | e
    · exact .inl e
    · refine .inr fun j hj => ?_
      rw [e] at hj
      injection hj
      omega
end Go.Proofs.Ytgegjoeggbhaeaa
