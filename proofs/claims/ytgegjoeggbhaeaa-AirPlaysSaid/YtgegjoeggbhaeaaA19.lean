import Derived.Test.YtgegjoeggbhaeaaA18
namespace Go.Proofs.Ytgegjoeggbhaeaa
open Go.RowKit Go.Conc

section
variable {w : World} {B p : Nat} {v : Value} {s : List Row} {ps : List (Row × Value)}
/-- A row of the reference's table goes. -/
theorem RTab.gone {b off c : Nat} (t : RTab w B (.slice (some ⟨b, off, none⟩) ps.length c) ps) (k : Nat) (p : Row × Value) (hk : ps[k]? = some p) :
    RTab (w.setCell ⟨b, off + k * 3 + 2, none⟩ (.bool true)) B (.slice (some ⟨b, off, none⟩) ps.length c) (ps.set k (goneP p)) := by
  have hlt : k < ps.length := (List.getElem?_eq_some_iff.1 hk).1
  refine ⟨?_, fun q hq => ?_⟩
  · have := t.own.set (k * 3 + 2) (by omega) (.bool true)
    rw [flat_set encP 3 encP_len ps k 2 p (goneP p) (.bool true) hk (by omega) rfl] at this
    rw [List.length_set, Nat.add_assoc]
    exact this
  · have hbod : ∀ q ∈ ps, Bod (w.setCell ⟨b, off + k * 3 + 2, none⟩ (.bool true)) q := fun q hq => (t.bod q hq).keep fun j cur fr hc => heap_setCell_other _ _ _ _ (by
      intro e0
      obtain ⟨cur', hc'⟩ := t.own.type (j := b) (by simp [Value.ownBlock])
      rw [e0] at hc
      rw [hc'] at hc; injection hc with hc; injection hc with _ hc _; cases hc)
    rcases List.mem_or_eq_of_mem_set hq with h1 | h1
    · exact hbod q h1
    · subst h1
      exact hbod p (List.mem_of_getElem? hk)
theorem rlose_law {b off c : Nat} {r : Row} {k : Nat} (a : Ref w B p (.slice (some ⟨b, off, none⟩) s.length c) s) (hk : s[k]? = some r) :
    Ref (w.setCell ⟨b, off + k * 3 + 2, none⟩ (.bool true)) B p (.slice (some ⟨b, off, none⟩) s.length c) (loseAt s k) ∧ Turn w (w.setCell ⟨b, off + k * 3 + 2, none⟩ (.bool true)) p p (.slice (some ⟨b, off, none⟩) s.length c) (.slice (some ⟨b, off, none⟩) s.length c) := by
  have vb : (Value.slice (some ⟨b, off, none⟩) s.length c).ownBlock = some b := by simp [Value.ownBlock]
  have bp : p ≠ b := fun e => a.vp (by rw [vb, e])
  have other : ∀ j, j ≠ b → (w.setCell ⟨b, off + k * 3 + 2, none⟩ (.bool true)).heap[j]? = w.heap[j]? := fun j hj => heap_setCell_other _ _ _ _ hj
  refine ⟨?_, ⟨rfl, rfl, rfl, by rw [World.size_setCell]; exact Nat.le_refl _, fun j hj _ _ h3 => other j (fun e => h3 (by rw [vb, e])), .inl rfl⟩⟩
  have few := a.few
  obtain ⟨ps, hps, tb⟩ := a.tab
  obtain ⟨q, hq, rfl⟩ : ∃ q, ps[k]? = some q ∧ q.1 = r := by rw [← hps, List.getElem?_map] at hk; exact Option.map_eq_some_iff.1 hk
  have hl : s.length = ps.length := by rw [← hps, List.length_map]
  rw [hl] at tb ⊢
  refine ⟨(other p bp).trans (by have := a.top; rwa [hl] at this), ⟨ps.set k (goneP q), by rw [map_gone ps k q hq, hps], ?_⟩, a.bp, by rw [lose_len]; exact few⟩
  have := tb.gone k q hq
  exact this
end

set_option maxHeartbeats 1000000 in
theorem rcome_no (B p : Nat) (v : Value) (s : List Row) (n : Int) (w : World) (a : Ref w B p v s) (hno : ¬ ∃ k : Nat, k ∈ flyOf s ∧ (k : Int) = n) :
    Calls Try.prog 11 #[.pointer (some ⟨p, 0, none⟩), .int .i64 n] w fun e w' => e = .returned (.tuple #[.int .i64 0, .string { data := #[] }, .bool false]) ∧ w' = w := by
  have H : Calls Try.prog 20 #[.pointer (some ⟨p, 0, none⟩), .int .i64 n] w fun e w' => e = .returned (.bool false) ∧ w' = w := by
    by_cases h : n < 0 ∨ (s.length : Int) ≤ n
    · exact there_out B p v s n w a h
    · obtain ⟨k, rfl⟩ : ∃ k : Nat, n = (k : Int) := ⟨n.toNat, by omega⟩
      have hk : k < s.length := by omega
      have hg : (s[k]).gone = true := by
        cases hg : (s[k]).gone with
        | true => rfl
        | false => exact absurd ⟨k, (mem_flyOf s k).2 ⟨s[k], by simp [hk], hg⟩, rfl⟩ hno
      have := there_in B p v s k s[k] w a (by simp [hk])
      rwa [hg] at this
  clear hno
  go_enter Try.func11, Try.ntmps11
  go_wp2_with fail
  refine H.mono ?_
  rintro e w' ⟨rfl, rfl⟩
  clear H
  go_wp2
  go_ret3
  exact ⟨rfl, rfl⟩

set_option maxHeartbeats 4000000 in
set_option maxRecDepth 100000 in
theorem rcome_yes (B p : Nat) (v : Value) (s : List Row) (k : Nat) (r : Row) (w : World) (a : Ref w B p v s) (hk : s[k]? = some r) (hg : r.gone = false) :
    Calls Try.prog 11 #[.pointer (some ⟨p, 0, none⟩), .int .i64 (k : Int)] w fun e w' => e = .returned (.tuple #[.int .i64 r.to, .string (strOfNums r.body), .bool true]) ∧ Ref w' B p v (loseAt s k) ∧ Turn w w' p p v v := by
  have H := there_in B p v s k r w a hk
  rw [hg] at H
  obtain ⟨b, off, c, bv, rfl, c0, c1, c2, c3, hbd, hf, hbl, hks⟩ := a.row hk
  obtain ⟨L1, L2⟩ := rlose_law a hk
  obtain ⟨b', off', c', bv', e, d0, d1, d2, d3, hbd', hf', hbl', hks'⟩ := L1.row (lose_get s k r hk)
  rw [lose_len] at e
  injection e with e _ e2
  injection e with e
  injection e with e1 e3 _
  subst e1 e2 e3
  have hcs := hbd'.conv
  have hcn : ∀ n, (convert 30 9 bv').run Try.prog ((w.setCell ⟨b, off + k * 3 + 2, none⟩ (.bool true)).drewN n) = .ok (.string (strOfNums r.body)) ((w.setCell ⟨b, off + k * 3 + 2, none⟩ (.bool true)).drewN n) := fun n => (hbd'.keep (w' := (w.setCell ⟨b, off + k * 3 + 2, none⟩ (.bool true)).drewN n) (fun _ _ _ _ => rfl)).conv
  have LL := Lib.hid (And.intro L1 L2)
  have hff : w.frozen? ⟨b, off + k * 3 + 2, none⟩ = false := hf _
  generalize hw5 : w.setCell ⟨b, off + k * 3 + 2, none⟩ (.bool true) = w5 at d0 d1 d2 hcs hcn LL
  have HW := Lib.hid hw5
  clear L1 L2 hbd hbd' hf hf' d3 hw5 a hk
  go_enter Try.func11, Try.ntmps11
  go_wp2_with fail
  refine H.mono ?_
  rintro e w' ⟨rfl, rfl⟩
  clear H
  go_wp2_with fail
  rw [HW.out]
  go_quiet (fail)
  go_wp2
  go_ret3
  exact ⟨rfl, LL.out.1.below (below_drewN (Below.refl _ _) _), LL.out.2.trans (Turn.of_below (below_drewN (Below.refl _ _) _))⟩
end Go.Proofs.Ytgegjoeggbhaeaa
