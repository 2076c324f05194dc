import Derived.Test.YtpanjdncjdellaaKit
namespace Go.Proofs.Ytpanjdncjdellaa
open Go.RowKit

/-- A stream's one end, as the document has it: what waits; up to which all is acknowledged, and was sent; the timer. -/
structure St where
  l : List (List Value)
  acked : Int
  sent : Int
  wait : Int
  due : Int
  now : Int
def St.cells (s : St) (lv : Value) : Array Value := #[lv, .int .i64 s.acked, .int .i64 s.sent, .int .i64 s.wait, .int .i64 s.due, .int .i64 s.now]
def St.fresh : St := ⟨[], 0, 0, 2, -1, 0⟩

/-- lv holds the bodies l. -/
def Hold (w : World) (B : Nat) (lv : Value) (l : List (List Value)) : Prop :=
  ∃ ls : List Value, Own w B 26 1 lv l.length ls ∧ ∀ (i : Nat) (b : List Value), l[i]? = some b → ∃ v, ls[i]? = some v ∧ Own w B 5 1 v b.length b

/-- Block g is a stream's end in the state s; all of it lies from block B on. -/
structure Inv (w : World) (B g : Nat) (s : St) : Prop where
  ge : B ≤ g
  at_ : ∃ lv, w.heap[g]? = some (.cells (s.cells lv) 39 (0, 0)) ∧ Hold w B lv s.l
  le : s.l.length ≤ 1000

section
variable {w w' : World} {B B' g : Nat} {s : St} {lv : Value} {l : List (List Value)}
theorem Hold.keep (h : Hold w B lv l) (hk : ∀ {e k n : Nat} {v : Value} {xs : List Value}, (e = 26 ∨ e = 5) → Own w B e k v n xs → Own w' B e k v n xs) : Hold w' B lv l := by
  obtain ⟨ls, h1, h2⟩ := h
  refine ⟨ls, hk (.inl rfl) h1, fun i b hb => ?_⟩
  obtain ⟨v, hv, ho⟩ := h2 i b hb
  exact ⟨v, hv, hk (.inr rfl) ho⟩
theorem Hold.below (h : Hold w B lv l) (hb : Below w.heap.size w w') : Hold w' B lv l := h.keep fun _ ho => ho.below hb
theorem Hold.grown (h : Hold w B lv l) {cs : Array Value} (hg : w.heap[g]? = some (.cells cs 39 (0, 0))) (hw : w.grownBy w' (some g)) : Hold w' B lv l :=
  h.keep fun he ho => ho.beside hg (by omega) hw
theorem Hold.other (h : Hold w B lv l) {b k n : Nat} {v : Value} {xs : List Value} (h2 : Own w b 2 k v n xs) (hw : w.grownBy w' v.ownBlock) : Hold w' B lv l :=
  h.keep fun he ho => ho.other h2 (by omega) hw
theorem Hold.form (h : Hold w B lv l) : ∃ A c, lv = .slice A l.length c ∧ l.length ≤ c ∧ c ≤ maxLen := by
  obtain ⟨ls, h1, _⟩ := h
  obtain ⟨A, c, e, h2, h3, _⟩ := h1.form
  exact ⟨A, c, e, h2, h3⟩

theorem Inv.lt (h : Inv w B g s) : g < w.heap.size := by
  obtain ⟨lv, hg, _⟩ := h.at_
  exact (Array.getElem?_eq_some_iff.1 hg).1
theorem Inv.below (h : Inv w B g s) (hb : Below w.heap.size w w') : Inv w' B g s := by
  obtain ⟨lv, hg, hh⟩ := h.at_
  exact ⟨h.ge, ⟨lv, (hb.block g h.lt).trans hg, hh.below hb⟩, h.le⟩
theorem Inv.other (h : Inv w B g s) {b k n : Nat} {v : Value} {xs : List Value} (h2 : Own w b 2 k v n xs) (hw : w.grownBy w' v.ownBlock) : Inv w' B g s := by
  obtain ⟨lv, hg, hh⟩ := h.at_
  refine ⟨h.ge, ⟨lv, (hw.block g h.lt ?_).trans hg, hh.other h2 hw⟩, h.le⟩
  intro e0
  rcases h2.2 with ⟨rfl, _⟩ | ⟨g1, off, cap, cur, rfl, _, hh1, _⟩
  · simp [Value.ownBlock] at e0
  · simp [Value.ownBlock] at e0
    subst e0
    rw [hg] at hh1
    injection hh1 with hh1
    injection hh1 with _ hh1 _
    exact absurd hh1 (by decide)
/-- The fields, with the shape of the first. -/
theorem Inv.open_ (h : Inv w B g s) : ∃ A c, Hold w B (.slice A s.l.length c) s.l ∧ s.l.length ≤ c ∧ c ≤ 9223372036854775807 ∧ w.heap[g]? = some (.cells (s.cells (.slice A s.l.length c)) 39 (0, 0)) ∧
    w.cell? ⟨g, 0, none⟩ = some (.slice A s.l.length c) ∧ w.cell? ⟨g, 1, none⟩ = some (.int .i64 s.acked) ∧ w.cell? ⟨g, 2, none⟩ = some (.int .i64 s.sent) ∧ w.cell? ⟨g, 3, none⟩ = some (.int .i64 s.wait) ∧ w.cell? ⟨g, 4, none⟩ = some (.int .i64 s.due) ∧ w.cell? ⟨g, 5, none⟩ = some (.int .i64 s.now) ∧
    (∀ i, w.frozen? ⟨g, i, none⟩ = false) := by
  obtain ⟨lv, hg, hh⟩ := h.at_
  obtain ⟨A, c, rfl, h1, h2⟩ := hh.form
  have hc := fun j => cell_of_row w g j _ 39 (0, 0) hg
  exact ⟨A, c, hh, h1, by simpa [maxLen] using h2, hg, hc 0, hc 1, hc 2, hc 3, hc 4, hc 5, fun i => frozen_of_row w g i _ 39 hg⟩
theorem Inv.drew (h : Inv w B g s) : Inv w.drew B g s := ⟨h.ge, h.at_, h.le⟩
theorem Inv.drewN (h : Inv w B g s) (n : Nat) : Inv (w.drewN n) B g s := ⟨h.ge, h.at_, h.le⟩
theorem Inv.set (h : Inv w B g s) (i : Nat) (x : Int) (s' : St) (hl : s'.l = s.l) (hc : ∀ lv, (s.cells lv).setIfInBounds i (.int .i64 x) = s'.cells lv) : Inv (w.setCell ⟨g, i, none⟩ (.int .i64 x)) B g s' := by
  obtain ⟨lv, hg, hh⟩ := h.at_
  refine ⟨h.ge, ⟨lv, ?_, ?_⟩, by rw [hl]; exact h.le⟩
  · rw [heap_setCell_same w g i _ 39 _ hg, hc]
  · rw [hl]; exact hh.grown hg (grown_set (grown_refl w _) i _)
theorem Inv.acked_ (h : Inv w B g s) (x : Int) : Inv (w.setCell ⟨g, 1, none⟩ (.int .i64 x)) B g { s with acked := x } := h.set 1 x _ rfl fun _ => rfl
theorem Inv.sent_ (h : Inv w B g s) (x : Int) : Inv (w.setCell ⟨g, 2, none⟩ (.int .i64 x)) B g { s with sent := x } := h.set 2 x _ rfl fun _ => rfl
theorem Inv.wait_ (h : Inv w B g s) (x : Int) : Inv (w.setCell ⟨g, 3, none⟩ (.int .i64 x)) B g { s with wait := x } := h.set 3 x _ rfl fun _ => rfl
theorem Inv.due_ (h : Inv w B g s) (x : Int) : Inv (w.setCell ⟨g, 4, none⟩ (.int .i64 x)) B g { s with due := x } := h.set 4 x _ rfl fun _ => rfl
theorem Inv.now_ (h : Inv w B g s) (x : Int) : Inv (w.setCell ⟨g, 5, none⟩ (.int .i64 x)) B g { s with now := x } := h.set 5 x _ rfl fun _ => rfl
/-- The list of bodies anew. -/
theorem Inv.list_ (h : Inv w B g s) (lv : Value) (l : List (List Value)) (hh : Hold w B lv l) (hl : l.length ≤ 1000) : Inv (w.setCell ⟨g, 0, none⟩ lv) B g { s with l := l } := by
  obtain ⟨lv0, hg, _⟩ := h.at_
  exact ⟨h.ge, ⟨lv, (heap_setCell_same w g 0 _ 39 _ hg), hh.grown hg (grown_set (grown_refl w _) 0 _)⟩, hl⟩
theorem Inv.own (h : Inv w B g s) {b e k n : Nat} {v : Value} {xs : List Value} (ho : Own w b e k v n xs) (he : 39 ≠ e) (hw : w.grownBy w' (some g)) : Own w' b e k v n xs := by
  obtain ⟨lv, hg, _⟩ := h.at_
  exact ho.beside hg he hw
end

theorem fresh_inv (w : World) : Inv (w.alloc (.cells #[.slice none 0 0, .int .i64 0, .int .i64 0, .int .i64 2, .int .i64 (-1), .int .i64 0] 39)) w.heap.size w.heap.size St.fresh :=
  ⟨Nat.le_refl _, ⟨.slice none 0 0, heap_alloc_new w _, ⟨[], Own.nil_ _ _ _ _, fun i b h => by simp [St.fresh] at h⟩⟩, by simp [St.fresh]⟩

theorem new_any (w : World) : Calls Try.prog 6 #[] w fun e w' => e = .returned (.pointer (some ⟨w.heap.size, 0, none⟩)) ∧ Inv w' w.heap.size w.heap.size St.fresh ∧ Below w.heap.size w w' := by
  go_enter Try.func6, Try.ntmps6
  go_wp2
  go_ret
  exact ⟨rfl, fresh_inv w, (Below.refl _ _).alloc (Nat.le_refl _) _⟩

theorem due_any (B g : Nat) (s : St) (w : World) (h : Inv w B g s) : Calls Try.prog 13 #[.pointer (some ⟨g, 0, none⟩)] w fun e w' => e = .returned (.int .i64 s.due) ∧ w' = w := by
  obtain ⟨A, c, _, _, _, _, c0, c1, c2, c3, c4, c5, fz⟩ := h.open_
  go_enter Try.func13, Try.ntmps13
  go_wp2
  go_ret
  exact ⟨rfl, rfl⟩
theorem due_nil (w : World) : Calls Try.prog 13 #[.pointer none] w fun e w' => e = .returned (.int .i64 (-1)) ∧ w' = w := by
  go_enter Try.func13, Try.ntmps13
  go_wp2
  go_ret
  exact ⟨rfl, rfl⟩
theorem acked_any (B g : Nat) (s : St) (w : World) (h : Inv w B g s) : Calls Try.prog 12 #[.pointer (some ⟨g, 0, none⟩)] w fun e w' => e = .returned (.int .i64 s.acked) ∧ w' = w := by
  obtain ⟨A, c, _, _, _, _, c0, c1, c2, c3, c4, c5, fz⟩ := h.open_
  go_enter Try.func12, Try.ntmps12
  go_wp2
  go_ret
  exact ⟨rfl, rfl⟩
theorem acked_nil (w : World) : Calls Try.prog 12 #[.pointer none] w fun e w' => e = .returned (.int .i64 0) ∧ w' = w := by
  go_enter Try.func12, Try.ntmps12
  go_wp2
  go_ret
  exact ⟨rfl, rfl⟩
theorem len_any (B g : Nat) (s : St) (w : World) (h : Inv w B g s) : Calls Try.prog 11 #[.pointer (some ⟨g, 0, none⟩)] w fun e w' => e = .returned (.int .i64 s.l.length) ∧ w' = w := by
  obtain ⟨A, c, _, _, _, _, c0, c1, c2, c3, c4, c5, fz⟩ := h.open_
  go_enter Try.func11, Try.ntmps11
  go_wp2
  go_ret
  exact ⟨rfl, rfl⟩
theorem put_nil (A : Option Addr) (n c : Nat) (w : World) : Calls Try.prog 7 #[.pointer none, .slice A n c] w fun e w' => e = .returned (.int .i64 10) ∧ w' = w := by
  go_enter Try.func7, Try.ntmps7
  go_wp2
  go_ret
  exact ⟨rfl, rfl⟩
theorem put_range (B g : Nat) (s : St) (A : Option Addr) (n c : Nat) (w : World) (h : Inv w B g s) (hn : 4100 < n) : Calls Try.prog 7 #[.pointer (some ⟨g, 0, none⟩), .slice A n c] w fun e w' => e = .returned (.int .i64 5) ∧ w' = w := by
  obtain ⟨A, c, _, _, _, _, c0, c1, c2, c3, c4, c5, fz⟩ := h.open_
  have hn' : (4100 : Int) < (n : Int) := by omega
  go_enter Try.func7, Try.ntmps7
  go_wp2
  go_ret
  exact ⟨rfl, rfl⟩
theorem put_full (B g : Nat) (s : St) (A : Option Addr) (n c : Nat) (w : World) (h : Inv w B g s) (hn : n ≤ 4100) (hl : s.l.length = 1000) : Calls Try.prog 7 #[.pointer (some ⟨g, 0, none⟩), .slice A n c] w fun e w' => e = .returned (.int .i64 8) ∧ w' = w := by
  obtain ⟨A, c, _, _, _, _, c0, c1, c2, c3, c4, c5, fz⟩ := h.open_
  have hn' : (n : Int) ≤ (4100 : Int) := by omega
  rw [hl] at c0
  go_enter Try.func7, Try.ntmps7
  go_wp2
  go_ret
  exact ⟨rfl, rfl⟩

theorem byte_info : (Try.prog.info? 5).map (fun i => (i.zero, i.size, i.bytes)) = some (some (.int .u8 0), 1, 1) := by kernel_rfl
theorem slc_info : (Try.prog.info? 26).map (fun i => (i.zero, i.size, i.bytes)) = some (some (.slice none 0 0), 1, 24) := by kernel_rfl
theorem int_info : (Try.prog.info? 2).map (fun i => (i.zero, i.size, i.bytes)) = some (some (.int .i64 0), 1, 8) := by kernel_rfl

/-- bytes.Clone: the same bytes in new memory (nil for nil). -/
theorem clone_any (A : Option Addr) (n c : Nat) (xs : List Value) (w : World) (h : Rd w w.heap.size 1 A n xs) (hA : A = none → n = 0 ∧ c = 0) (h1 : ∀ u ∈ xs, u.oneCell' = true) (hn : n ≤ 1000000) :
    Calls Try.prog 15 #[.slice A n c] w fun e w' => ∃ v, e = .returned v ∧ Own w' w.heap.size 5 1 v n xs ∧ Below w.heap.size w w' := by
  cases A with
  | none =>
    obtain ⟨rfl, rfl⟩ := hA rfl
    have e0 := fun w => Lib.run_eql_slice_nil (P := Try.prog) w 26 5 none 0 0 0 0 Try.underlying26
    go_enter Try.func15, Try.ntmps15
    go_wp2
    go_ret
    obtain rfl : xs = [] := List.eq_nil_of_length_eq_zero (by simpa using h.1)
    exact ⟨_, rfl, Own.nil_ _ _ _ _, Below.refl _ _⟩
  | some a =>
    obtain ⟨i0, hi, hz0, hz1, hz2⟩ := info_parts byte_info
    have e0 := fun w => Lib.run_eql_slice_nil (P := Try.prog) w 26 5 (some a) n c 0 0 Try.underlying26
    go_enter Try.func15, Try.ntmps15
    go_wp2_with (at_builtin; refine wpList_append_rd _ rfl (.tmp 5) (.tmp 6) 26 rfl w.heap.size 5 i0 _ 1 1 Try.underlying26 hi hz0 hz1 hz2 rfl (by decide) (.slice (some ⟨w.heap.size, 0, none⟩) 0 0) 0 [] rfl (Own.built w 5 1) w.heap.size (some a) n c xs rfl (h.below ((Below.refl _ _).alloc (Nat.le_refl _) _)) (fun h => by cases h) h1 (by simp only [maxLen]; omega) (by omega) (by simp) ?_; intro v1 w1 hown1 hg1 hat1)
    go_ret
    have hb : Below w.heap.size w w1 := ((Below.refl _ _).alloc (Nat.le_refl _) _).grown hg1 (by simp) (fun k hk => by simp [Value.ownBlock] at hk; omega)
    exact ⟨v1, by simp, by simpa using hown1, hb⟩

end Go.Proofs.Ytpanjdncjdellaa
