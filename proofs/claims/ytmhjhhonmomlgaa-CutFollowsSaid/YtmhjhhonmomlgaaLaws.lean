/-
  The three laws over rows of ints, as the frames of their rows ask them.
-/
import Derived.Test.YtmhjhhonmomlgaaT9
namespace Go.Proofs.Ytmhjhhonmomlgaa
open Go.RowKit

/-- What a frame hands over of a slice of ints. -/
def IsRow (k : IntKind) (w : World) (a : Option Addr) (len cap : Nat) (zs : List Int) : Prop :=
  (a = none ∧ len = 0 ∧ cap = 0 ∧ zs = []) ∨
  ∃ x, a = some x ∧ len ≤ cap ∧ cap ≤ maxLen ∧ zs.length = cap ∧ (∀ i, i < zs.length → w.cell? (x.add i) = some (.int k (zs.getD i 0))) ∧ ∀ n ∈ zs, (Lit.int k n).wf = true

theorem IsRow.rd {w : World} {a : Option Addr} {len cap : Nat} {zs : List Int} (h : IsRow .i64 w a len cap zs) : ∃ ys, RdI w w.heap.size a len ys ∧ len ≤ 9223372036854775807 := by
  rcases h with ⟨rfl, rfl, rfl, rfl⟩ | ⟨x, rfl, hl, hm, hz, hcell, _⟩
  · exact ⟨[], ⟨rfl, Rd.nil_ _ _ _ _⟩, by omega⟩
  · refine ⟨zs.take len, ⟨by rw [List.length_take]; omega, by rw [List.length_map, List.length_take]; omega, fun hn => ?_⟩, by unfold maxLen at hm; omega⟩
    obtain ⟨b, off, spot⟩ := x
    have hc := hcell 0 (by omega)
    have hspot : spot = none := by simpa [Addr.add] using World.cell?_spot hc
    subst hspot
    refine ⟨b, off, rfl, World.block_lt_of_cell? w ⟨b, off, none⟩ (by simpa [Addr.add] using hc), fun j u hu => ?_⟩
    have hj : j < len := by have := (List.getElem?_eq_some_iff.1 hu).1; rw [List.length_map, List.length_take] at this; omega
    have := hcell j (by omega)
    rw [Addr.add_lit] at this
    rw [this]
    rw [List.getElem?_map, List.getElem?_take, if_pos hj, List.getElem?_eq_getElem (by omega)] at hu
    simp only [Option.map_some] at hu
    rw [← hu]
    simp [List.getD, List.getElem?_eq_getElem (show j < zs.length by omega)]

theorem safe_row (a0 : Option Addr) (len0 cap0 : Nat) (z0 : List Int) (a1 a2 : Int) (w : World) (w0 : IsRow .i64 w a0 len0 cap0 z0) (_w1 : (Lit.int .i64 a1).wf = true) (_w2 : (Lit.int .i64 a2).wf = true) :
    Calls Try.prog 3 #[.slice a0 len0 cap0, .int .i64 a1, .int .i64 a2] w fun e w' => e = .returned (.bool true) ∧ Below w.heap.size w w' := by
  obtain ⟨ys, h, hm⟩ := w0.rd
  exact cutSafe_any a0 len0 cap0 ys a1 a2 w h hm
theorem none_row (a0 : Option Addr) (len0 cap0 : Nat) (z0 : List Int) (a1 : Int) (w : World) (w0 : IsRow .i64 w a0 len0 cap0 z0) (_w1 : (Lit.int .i64 a1).wf = true) :
    Calls Try.prog 6 #[.slice a0 len0 cap0, .int .i64 a1] w fun e w' => e = .returned (.bool true) ∧ Below w.heap.size w w' := by
  obtain ⟨ys, h, hm⟩ := w0.rd
  exact cutNone_any a0 len0 cap0 ys a1 w h hm
theorem follows_row (a0 : Option Addr) (len0 cap0 : Nat) (z0 : List Int) (a1 : Option Addr) (len1 cap1 : Nat) (z1 : List Int) (a2 a3 : Int) (w : World) (w0 : IsRow .i64 w a0 len0 cap0 z0) (w1 : IsRow .i64 w a1 len1 cap1 z1) (_w2 : (Lit.int .i64 a2).wf = true) (_w3 : (Lit.int .i64 a3).wf = true) :
    Calls Try.prog 5 #[.slice a0 len0 cap0, .slice a1 len1 cap1, .int .i64 a2, .int .i64 a3] w fun e w' => e = .returned (.bool true) ∧ Below w.heap.size w w' := by
  obtain ⟨ys, h, hm⟩ := w0.rd
  obtain ⟨xs, h', hm'⟩ := w1.rd
  exact cutFollows_any a0 a1 len0 cap0 len1 cap1 ys xs a2 a3 w h h' hm hm'
end Go.Proofs.Ytmhjhhonmomlgaa
