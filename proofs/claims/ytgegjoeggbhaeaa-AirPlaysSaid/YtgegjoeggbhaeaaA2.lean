import Derived.Test.YtgegjoeggbhaeaaA1
namespace Go.Proofs.Ytgegjoeggbhaeaa
open Go.RowKit Go.Conc

/-- Bytes as cells. -/
def byt (b : List Int) : List Value := b.map (.int .u8 ·)
@[simp] theorem byt_len (b : List Int) : (byt b).length = b.length := by simp [byt]
theorem byt_one (b : List Int) : ∀ u ∈ byt b, u.oneCell' = true := by
  intro u hu
  obtain ⟨x, _, rfl⟩ := List.mem_map.1 hu
  rfl

/-- A datagram: to whom, its bytes, gone or not. -/
structure Row where
  to : Int
  body : List Int
  gone : Bool
/-- Its three cells; the body's slice beside it. -/
def encP (p : Row × Value) : List Value := [.int .i64 p.1.to, p.2, .bool p.1.gone]
theorem encP_len (p : Row × Value) : (encP p).length = 3 := rfl
def nums (fly : List Nat) : List Value := fly.map fun i : Nat => .int .i64 (i : Int)
@[simp] theorem nums_len (l : List Nat) : (nums l).length = l.length := by simp [nums]

/-- A slice of datagrams, each with a body that is no one's else to write. -/
structure Tab (w : World) (B : Nat) (v : Value) (ps : List (Row × Value)) : Prop where
  own : Own w B 55 3 v ps.length (ps.flatMap encP)
  bod : ∀ p ∈ ps, Own w B 5 1 p.2 p.1.body.length (byt p.1.body)

/-- What flies: those that are not gone. -/
def flyOf (s : List Row) : List Nat := (List.range s.length).filter fun i => !((s[i]?.map (·.gone)).getD true)

/-- An air: block g holds its two fields, block h is the channel, v the slice of all that ever was sent. -/
structure Air (w : World) (B g h : Nat) (v : Value) (s : List Row) : Prop where
  top : w.heap[g]? = some (.cells #[v, .chan (some h)] 52 (0, 0))
  ch : ∃ n r, w.heap[h]? = some (.chan 200 (nums (flyOf s)).toArray false n r false)
  tab : ∃ ps : List (Row × Value), ps.map (·.1) = s ∧ Tab w B v ps
  bg : B ≤ g
  bh : B ≤ h
  few : s.length ≤ 1000
  small : ∀ r ∈ s, r.body.length ≤ 5000
  room : (flyOf s).length ≤ 200

/-- Blocks g, h and v's, and new ones, may turn. -/
structure Turn (w w' : World) (g h : Nat) (v v' : Value) : Prop where
  os : w'.os = w.os
  tape : w'.tape = w.tape
  output : w'.output = w.output
  size : w.heap.size ≤ w'.heap.size
  block : ∀ j < w.heap.size, j ≠ g → j ≠ h → v.ownBlock ≠ some j → w'.heap[j]? = w.heap[j]?
  row : v'.ownBlock = v.ownBlock ∨ ∀ j, v'.ownBlock = some j → w.heap.size ≤ j

section
variable {w w' w'' : World} {B g h : Nat} {v v' v'' : Value} {s : List Row} {ps : List (Row × Value)}
theorem Turn.refl (w : World) (g h : Nat) (v : Value) : Turn w w g h v v := ⟨rfl, rfl, rfl, Nat.le_refl _, fun _ _ _ _ _ => rfl, .inl rfl⟩
theorem Turn.trans (a : Turn w w' g h v v') (b : Turn w' w'' g h v' v'') : Turn w w'' g h v v'' := by
  refine ⟨b.os.trans a.os, b.tape.trans a.tape, b.output.trans a.output, Nat.le_trans a.size b.size, fun j hj h1 h2 h3 => ?_, ?_⟩
  · refine (b.block j (Nat.lt_of_lt_of_le hj a.size) h1 h2 ?_).trans (a.block j hj h1 h2 h3)
    intro e
    rcases a.row with r | r
    · exact h3 (r ▸ e)
    · exact absurd (r j e) (by omega)
  · rcases b.row with r | r
    · rcases a.row with q | q
      · exact .inl (r.trans q)
      · exact .inr fun j hj => q j (r ▸ hj)
    · exact .inr fun j hj => Nat.le_trans a.size (r j hj)
theorem Turn.of_below (b : Below w.heap.size w w') : Turn w w' g h v v := ⟨b.os, b.tape, b.output, b.size, fun j hj _ _ _ => b.block j hj, .inl rfl⟩
theorem Turn.below (t : Turn w w' g h v v') (hB : B ≤ w.heap.size) (h1 : B ≤ g) (h2 : B ≤ h) (h3 : ∀ j, v.ownBlock = some j → B ≤ j) : Below B w w' :=
  ⟨t.os, t.tape, t.output, t.size, fun j hj => t.block j (by omega) (by omega) (by omega) (fun e => by have := h3 j e; omega)⟩

theorem Own.type {e : TypeId} {k n : Nat} {xs : List Value} (ho : Own w B e k v n xs) {j : Nat} (hj : v.ownBlock = some j) : ∃ cur, w.heap[j]? = some (.cells cur e (0, 0)) := by
  rcases ho.2 with ⟨rfl, _⟩ | ⟨g1, off, cap, cur, rfl, _, hh, _⟩
  · simp [Value.ownBlock] at hj
  · simp [Value.ownBlock] at hj
    subst hj
    exact ⟨cur, hh⟩

theorem Tab.lt (t : Tab w B v ps) : ∀ j, v.ownBlock = some j → B ≤ j ∧ j < w.heap.size := fun j hj => t.own.block j hj
theorem Tab.keep (t : Tab w B v ps) (hv : ∀ j, v.ownBlock = some j → w'.heap[j]? = w.heap[j]?) (h5 : ∀ (j : Nat) (cur : Array Value), w.heap[j]? = some (.cells cur 5 (0, 0)) → w'.heap[j]? = w.heap[j]?) : Tab w' B v ps :=
  ⟨t.own.keep hv, fun p hp => (t.bod p hp).keep fun j hj => by obtain ⟨cur, hc⟩ := (t.bod p hp).type hj; exact h5 j cur hc⟩
theorem Tab.below (t : Tab w B v ps) (b : Below w.heap.size w w') : Tab w' B v ps :=
  t.keep (fun j hj => b.block j (t.lt j hj).2) fun j cur hc => b.block j (Array.getElem?_eq_some_iff.1 hc).1
theorem Tab.base_ (t : Tab w B v ps) {B' : Nat} (h : B' ≤ B) : Tab w B' v ps :=
  ⟨t.own.base_ fun j hj => by have := (t.lt j hj).1; omega, fun p hp => (t.bod p hp).base_ fun j hj => by have := ((t.bod p hp).block j hj).1; omega⟩

theorem Air.c0 (a : Air w B g h v s) : w.cell? ⟨g, 0, none⟩ = some v := by rw [cell_of_row w g 0 _ 52 (0, 0) a.top]; rfl
theorem Air.c1 (a : Air w B g h v s) : w.cell? ⟨g, 1, none⟩ = some (.chan (some h)) := by rw [cell_of_row w g 1 _ 52 (0, 0) a.top]; rfl
theorem Air.fz (a : Air w B g h v s) (i : Nat) : w.frozen? ⟨g, i, none⟩ = false := frozen_of_row w g i _ 52 a.top
theorem Air.lt (a : Air w B g h v s) : g < w.heap.size := (Array.getElem?_eq_some_iff.1 a.top).1
theorem Air.lth (a : Air w B g h v s) : h < w.heap.size := by obtain ⟨_, _, e⟩ := a.ch; exact (Array.getElem?_eq_some_iff.1 e).1
theorem Air.ne (a : Air w B g h v s) : g ≠ h := by
  rintro rfl
  obtain ⟨_, _, e⟩ := a.ch
  rw [a.top] at e
  injection e with e
  cases e
/-- The slice's form. -/
theorem Air.form (a : Air w B g h v s) : ∃ A c, v = .slice A s.length c ∧ s.length ≤ c ∧ c ≤ maxLen ∧ (A = none → s.length = 0 ∧ c = 0) := by
  obtain ⟨ps, rfl, t⟩ := a.tab
  obtain ⟨A, c, e, h1, h2, h3⟩ := t.own.form
  rw [List.length_map]
  exact ⟨A, c, e, h1, h2, h3⟩
theorem Air.vlt (a : Air w B g h v s) : ∀ j, v.ownBlock = some j → B ≤ j ∧ j < w.heap.size := by
  obtain ⟨ps, _, t⟩ := a.tab
  exact t.lt
theorem Air.vg (a : Air w B g h v s) : v.ownBlock ≠ some g := by
  intro e
  obtain ⟨ps, _, t⟩ := a.tab
  obtain ⟨cur, hc⟩ := t.own.type e
  rw [a.top] at hc
  injection hc with hc
  injection hc with _ hc _
  cases hc
theorem Air.vh (a : Air w B g h v s) : v.ownBlock ≠ some h := by
  intro e
  obtain ⟨ps, _, t⟩ := a.tab
  obtain ⟨cur, hc⟩ := t.own.type e
  obtain ⟨_, _, e⟩ := a.ch
  rw [e] at hc
  injection hc with hc
  cases hc
/-- What lies beside an air's blocks stands. -/
theorem Air.beside (a : Air w B g h v s) (t : Turn w w' g h v v') {j : Nat} {cur : Array Value} {e : TypeId} {fr : Nat × Nat} (hj : w.heap[j]? = some (.cells cur e fr)) (h1 : e ≠ 52) (h2 : e ≠ 55) : w'.heap[j]? = w.heap[j]? := by
  refine t.block j (Array.getElem?_eq_some_iff.1 hj).1 ?_ ?_ ?_
  · rintro rfl
    rw [a.top] at hj
    injection hj with hj
    injection hj with _ hj _
    exact h1 hj.symm
  · rintro rfl
    obtain ⟨_, _, e⟩ := a.ch
    rw [e] at hj
    injection hj with hj
    cases hj
  · intro e0
    obtain ⟨ps, _, tb⟩ := a.tab
    obtain ⟨cur', hc⟩ := tb.own.type e0
    rw [hc] at hj
    injection hj with hj
    injection hj with _ hj _
    exact h2 hj.symm
theorem Air.other (a : Air w B g h v s) (t : Turn w w' g h v v') {b e k n : Nat} {x : Value} {xs : List Value} (ho : Own w b e k x n xs) (h1 : e ≠ 52) (h2 : e ≠ 55) : Own w' b e k x n xs :=
  ho.keep fun j hj => by obtain ⟨cur, hc⟩ := ho.type hj; exact a.beside t hc h1 h2
theorem Air.below (a : Air w B g h v s) (b : Below w.heap.size w w') : Air w' B g h v s := by
  obtain ⟨ps, e, t⟩ := a.tab
  obtain ⟨n, r, c⟩ := a.ch
  exact ⟨(b.block g a.lt).trans a.top, ⟨n, r, (b.block h a.lth).trans c⟩, ⟨ps, e, t.below b⟩, a.bg, a.bh, a.few, a.small, a.room⟩
/-- Only the channel's block turns (and new blocks come). -/
theorem Air.chan (a : Air w B g h v s) (hs : w.heap.size ≤ w'.heap.size) (hb : ∀ j < w.heap.size, j ≠ h → w'.heap[j]? = w.heap[j]?) (hc : ∃ n r, w'.heap[h]? = some (.chan 200 (nums (flyOf s)).toArray false n r false)) : Air w' B g h v s := by
  obtain ⟨ps, e, t⟩ := a.tab
  refine ⟨(hb g a.lt a.ne).trans a.top, hc, ⟨ps, e, t.keep (fun j hj => hb j (t.lt j hj).2 (fun e => a.vh (e ▸ hj))) fun j cur h5 => hb j (Array.getElem?_eq_some_iff.1 h5).1 ?_⟩, a.bg, a.bh, a.few, a.small, a.room⟩
  rintro rfl
  obtain ⟨_, _, e⟩ := a.ch
  rw [e] at h5
  injection h5 with h5
  cases h5
theorem Air.below_of (a : Air w B g h v s) (t : Turn w w' g h v v') (hB : B ≤ w.heap.size) : Below B w w' := t.below hB a.bg a.bh fun j hj => (a.vlt j hj).1
end

/-! ### What flies -/
theorem flyOf_push (s : List Row) (r : Row) (hr : r.gone = false) : flyOf (s ++ [r]) = flyOf s ++ [s.length] := by
  unfold flyOf
  rw [List.length_append, List.length_singleton, List.range_succ, List.filter_append]
  congr 1
  · refine List.filter_congr fun i hi => ?_
    rw [List.mem_range] at hi
    rw [List.getElem?_append_left hi]
  · simp [hr]
theorem mem_flyOf (s : List Row) (i : Nat) : i ∈ flyOf s ↔ ∃ r, s[i]? = some r ∧ r.gone = false := by
  unfold flyOf
  rw [List.mem_filter, List.mem_range]
  constructor
  · rintro ⟨h, hg⟩
    rw [List.getElem?_eq_getElem h] at hg ⊢
    exact ⟨_, rfl, by simpa using hg⟩
  · rintro ⟨r, hr, hg⟩
    exact ⟨(List.getElem?_eq_some_iff.1 hr).1, by simp [hr, hg]⟩
def loseAt (s : List Row) (n : Nat) : List Row := s.modify n fun r => { r with gone := true }
theorem flyOf_lose (s : List Row) (n : Nat) : flyOf (loseAt s n) = (flyOf s).filter (fun i => i != n) := by
  unfold flyOf loseAt
  rw [List.length_modify, List.filter_filter]
  refine List.filter_congr fun i hi => ?_
  rw [List.getElem?_modify]
  by_cases e : n = i
  · subst e; cases s[n]? <;> simp
  · have : (i != n) = true := by simp; exact fun h => e h.symm
    simp [e, this]

theorem fly_info : (Try.prog.info? 55).map (fun i => (i.zero, i.size, i.bytes)) = some (some (.agg #[.int .i64 0, .slice none 0 0, .bool false]), 3, 40) := by kernel_rfl
theorem int_info : (Try.prog.info? 3).map (fun i => (i.zero, i.size, i.bytes)) = some (some (.int .i64 0), 1, 8) := by kernel_rfl
theorem byte_info : (Try.prog.info? 5).map (fun i => (i.zero, i.size, i.bytes)) = some (some (.int .u8 0), 1, 1) := by kernel_rfl

/-- bytes.Clone: the same bytes in new memory (nil for nil). -/
theorem clone_any (A : Option Addr) (n c : Nat) (xs : List Value) (w : World) (h : Rd w w.heap.size 1 A n xs) (hA : A = none → n = 0 ∧ c = 0) (h1 : ∀ u ∈ xs, u.oneCell' = true) (hn : n ≤ 1000000) :
    Calls Try.prog 18 #[.slice A n c] w fun e w' => ∃ v, e = .returned v ∧ Own w' w.heap.size 5 1 v n xs ∧ Below w.heap.size w w' := by
  cases A with
  | none =>
    obtain ⟨rfl, rfl⟩ := hA rfl
    have e0 := fun w => Lib.run_eql_slice_nil (P := Try.prog) w 30 5 none 0 0 0 0 Try.underlying30
    go_enter Try.func18, Try.ntmps18
    go_wp2
    go_ret
    obtain rfl : xs = [] := List.eq_nil_of_length_eq_zero (by simpa using h.1)
    exact ⟨_, rfl, Own.nil_ _ _ _ _, Below.refl _ _⟩
  | some a =>
    obtain ⟨i0, hi, hz0, hz1, hz2⟩ := info_parts byte_info
    have e0 := fun w => Lib.run_eql_slice_nil (P := Try.prog) w 30 5 (some a) n c 0 0 Try.underlying30
    go_enter Try.func18, Try.ntmps18
    go_wp2_with (at_builtin; refine wpList_append_rd _ rfl (.tmp 5) (.tmp 6) 30 rfl w.heap.size 5 i0 _ 1 1 Try.underlying30 hi hz0 hz1 hz2 rfl (by decide) (.slice (some ⟨w.heap.size, 0, none⟩) 0 0) 0 [] rfl (Own.built w 5 1) w.heap.size (some a) n c xs rfl (h.below ((Below.refl _ _).alloc (Nat.le_refl _) _)) (fun h => by cases h) h1 (by simp only [maxLen]; omega) (by omega) (by simp) ?_; intro v1 w1 hown1 hg1 hat1)
    go_ret
    have hb : Below w.heap.size w w1 := ((Below.refl _ _).alloc (Nat.le_refl _) _).grown hg1 (by simp) (fun k hk => by simp [Value.ownBlock] at hk; omega)
    exact ⟨v1, by simp, by simpa using hown1, hb⟩
end Go.Proofs.Ytgegjoeggbhaeaa
