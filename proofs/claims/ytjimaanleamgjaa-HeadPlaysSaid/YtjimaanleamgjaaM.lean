/-
  Plain words for a head: samples, in the order of their times; a sample put in its place; no program in sight.
-/
namespace Go.Proofs.Ytjimaanleamgjaa

structure Smp where
  t : Int
  v : Int

def sameS (a b : Smp) : Bool := a.t == b.t && a.v == b.v
theorem sameS_iff {a b : Smp} : sameS a b = true ↔ a = b := by
  cases a; cases b; simp [sameS]

/-- What the heads of these laws are: their times rise, from z on, below 2^40; 64 at most. -/
structure Ok (z : Int) (xs : List Smp) : Prop where
  z0 : 0 ≤ z
  z1 : z ≤ 1099511627776
  rise : xs.Pairwise (fun a b => a.t < b.t)
  lo : ∀ s ∈ xs, z ≤ s.t
  hi : ∀ s ∈ xs, s.t < 1099511627776
  len : xs.length ≤ 64

/-- How many lie ahead of time t. -/
def pos (t : Int) : List Smp → Nat
  | [] => 0
  | s :: l => if s.t < t then pos t l + 1 else 0
/-- Is there one of time t? -/
def hit (t : Int) (xs : List Smp) : Bool := xs.any fun s => s.t == t
def ins (s : Smp) (xs : List Smp) : List Smp := xs.take (pos s.t xs) ++ s :: xs.drop (pos s.t xs)
/-- The samples behind a Put; its code. -/
def putL (z : Int) (xs : List Smp) (s : Smp) : List Smp := if s.t < z then xs else if hit s.t xs = true then xs else if 64 ≤ xs.length then xs else ins s xs
def putC (z : Int) (xs : List Smp) (s : Smp) : Int := if s.t < z then 6 else if hit s.t xs = true then 7 else if 64 ≤ xs.length then 8 else 0

theorem pos_le (t : Int) : ∀ xs, pos t xs ≤ xs.length
  | [] => Nat.le_refl _
  | s :: l => by
    have := pos_le t l
    simp only [pos]
    split <;> simp <;> omega

theorem pos_at (t : Int) : ∀ (xs : List Smp) (k : Nat), k ≤ xs.length → (∀ j a, j < k → xs[j]? = some a → a.t < t) → (∀ a, xs[k]? = some a → t ≤ a.t) → pos t xs = k := by
  intro xs
  induction xs with
  | nil => intro k hk _ _; simp at hk; subst hk; rfl
  | cons s l ih =>
    intro k hk h1 h2
    cases k with
    | zero =>
      have := h2 s (by simp)
      simp only [pos]
      rw [if_neg (by omega)]
    | succ k =>
      have := h1 0 s (by omega) (by simp)
      simp only [pos]
      rw [if_pos this, ih k (by simpa using hk) (fun j a hj ha => h1 (j + 1) a (by omega) (by simpa using ha)) (fun a ha => h2 a (by simpa using ha))]

theorem pos_lt {t : Int} : ∀ {xs : List Smp} {j : Nat} {a : Smp}, j < pos t xs → xs[j]? = some a → a.t < t := by
  intro xs
  induction xs with
  | nil => intro j a h _; simp [pos] at h
  | cons s l ih =>
    intro j a h ha
    simp only [pos] at h
    split at h
    · rename_i hs
      cases j with
      | zero => simp at ha; subst ha; exact hs
      | succ j => exact ih (j := j) (by omega) (by simpa using ha)
    · omega
theorem pos_ge {t : Int} {xs : List Smp} (hr : xs.Pairwise (fun a b => a.t < b.t)) : ∀ {j : Nat} {a : Smp}, pos t xs ≤ j → xs[j]? = some a → t ≤ a.t := by
  induction xs with
  | nil => intro j a _ ha; simp at ha
  | cons s l ih =>
    intro j a h ha
    rw [List.pairwise_cons] at hr
    simp only [pos] at h
    split at h
    · cases j with
      | zero => omega
      | succ j => exact ih hr.2 (j := j) (by omega) (by simpa using ha)
    · rename_i hs
      cases j with
      | zero => simp at ha; subst ha; omega
      | succ j =>
        have := hr.1 a (List.mem_of_getElem? (by simpa using ha))
        omega

theorem rise_get {xs : List Smp} (hr : xs.Pairwise (fun a b => a.t < b.t)) {i j : Nat} {a b : Smp} (hij : i < j) (ha : xs[i]? = some a) (hb : xs[j]? = some b) : a.t < b.t := by
  obtain ⟨h1, rfl⟩ := List.getElem?_eq_some_iff.1 ha
  obtain ⟨h2, rfl⟩ := List.getElem?_eq_some_iff.1 hb
  exact List.pairwise_iff_getElem.1 hr i j h1 h2 hij

theorem hit_of {t : Int} {xs : List Smp} {j : Nat} {a : Smp} (h : xs[j]? = some a) (e : a.t = t) : hit t xs = true := by
  simp only [hit, List.any_eq_true]
  exact ⟨a, List.mem_of_getElem? h, by simp [e]⟩
theorem hit_not {t : Int} {xs : List Smp} {k : Nat} (h1 : ∀ j a, j < k → xs[j]? = some a → a.t < t) (h2 : ∀ j a, k ≤ j → xs[j]? = some a → t < a.t) : hit t xs = false := by
  simp only [hit, List.any_eq_false]
  intro a ha
  obtain ⟨j, hj⟩ := List.mem_iff_getElem?.1 ha
  simp
  rcases Nat.lt_or_ge j k with h | h
  · have := h1 j a h hj; omega
  · have := h2 j a h hj; omega

theorem mem_ins {s a : Smp} {xs : List Smp} : a ∈ ins s xs ↔ a = s ∨ a ∈ xs := by
  unfold ins
  rw [List.mem_append, List.mem_cons]
  have e : a ∈ xs ↔ a ∈ xs.take (pos s.t xs) ∨ a ∈ xs.drop (pos s.t xs) := by
    rw [← List.mem_append, List.take_append_drop]
  rw [e]
  constructor
  · rintro (h | h | h)
    · exact .inr (.inl h)
    · exact .inl h
    · exact .inr (.inr h)
  · rintro (h | h | h)
    · exact .inr (.inl h)
    · exact .inl h
    · exact .inr (.inr h)
theorem len_ins (s : Smp) (xs : List Smp) : (ins s xs).length = xs.length + 1 := by
  have := pos_le s.t xs
  unfold ins
  rw [List.length_append, List.length_cons, List.length_take, List.length_drop]
  omega
theorem hit_iff {t : Int} {xs : List Smp} : hit t xs = true ↔ ∃ a ∈ xs, a.t = t := by
  simp [hit, List.any_eq_true]

theorem ins_rise {s : Smp} {xs : List Smp} (hr : xs.Pairwise (fun a b => a.t < b.t)) (hh : hit s.t xs = false) : (ins s xs).Pairwise (fun a b => a.t < b.t) := by
  have hne : ∀ a ∈ xs, a.t ≠ s.t := fun a ha e => by
    have := hit_iff.2 ⟨a, ha, e⟩
    rw [hh] at this
    cases this
  have lo : ∀ a ∈ xs.take (pos s.t xs), a.t < s.t := by
    intro a ha
    obtain ⟨j, hj⟩ := List.mem_iff_getElem?.1 ha
    rw [List.getElem?_take] at hj
    split at hj
    · rename_i hlt; exact pos_lt hlt hj
    · cases hj
  have hi : ∀ a ∈ xs.drop (pos s.t xs), s.t < a.t := by
    intro a ha
    obtain ⟨j, hj⟩ := List.mem_iff_getElem?.1 ha
    rw [List.getElem?_drop] at hj
    have h1 := pos_ge hr (Nat.le_add_right _ _) hj
    have h2 := hne a (List.mem_of_mem_drop ha)
    omega
  unfold ins
  rw [List.pairwise_append, List.pairwise_cons]
  refine ⟨hr.sublist (List.take_sublist _ _), ⟨hi, hr.sublist (List.drop_sublist _ _)⟩, ?_⟩
  intro a ha b hb
  rcases List.mem_cons.1 hb with rfl | hb
  · exact lo a ha
  · have h1 := lo a ha
    have h2 := hi b hb
    omega

theorem Ok.put {z : Int} {xs : List Smp} (h : Ok z xs) {s : Smp} (hs : s.t < 1099511627776) : Ok z (putL z xs s) := by
  unfold putL
  split
  · exact h
  split
  · exact h
  split
  · exact h
  · rename_i h1 h2 h3
    refine ⟨h.z0, h.z1, ins_rise h.rise (by simpa using h2), ?_, ?_, by rw [len_ins]; omega⟩
    · intro a ha
      rcases mem_ins.1 ha with rfl | ha
      · omega
      · exact h.lo a ha
    · intro a ha
      rcases mem_ins.1 ha with rfl | ha
      · exact hs
      · exact h.hi a ha

theorem Ok.nil {z : Int} (h0 : 0 ≤ z) (h1 : z ≤ 1099511627776) : Ok z [] := ⟨h0, h1, List.Pairwise.nil, by simp, by simp, by simp⟩

/-- Lists whose times rise and which have the same elements are one list. -/
theorem same_of_mem : ∀ {xs ys : List Smp}, xs.Pairwise (fun a b => a.t < b.t) → ys.Pairwise (fun a b => a.t < b.t) → (∀ a, a ∈ xs ↔ a ∈ ys) → xs = ys := by
  intro xs
  induction xs with
  | nil =>
    intro ys _ _ h
    cases ys with
    | nil => rfl
    | cons b l => exact absurd ((h b).2 (by simp)) (by simp)
  | cons a l ih =>
    intro ys hx hy h
    cases ys with
    | nil => exact absurd ((h a).1 (by simp)) (by simp)
    | cons b r =>
      rw [List.pairwise_cons] at hx hy
      have e : a = b := by
        have h1 := (h a).1 (by simp)
        have h2 := (h b).2 (by simp)
        rcases List.mem_cons.1 h1 with e | h1
        · exact e
        rcases List.mem_cons.1 h2 with e | h2
        · exact e.symm
        have := hy.1 a h1
        have := hx.1 b h2
        omega
      subst e
      rw [ih hx.2 hy.2 (fun c => ?_)]
      constructor
      · intro hc
        rcases List.mem_cons.1 ((h c).1 (by simp [hc])) with e | hc'
        · subst e
          have := hx.1 c hc
          omega
        · exact hc'
      · intro hc
        rcases List.mem_cons.1 ((h c).2 (by simp [hc])) with e | hc'
        · subst e
          have := hy.1 c hc
          omega
        · exact hc'

/-- The time of the last one. -/
theorem last_lt {z : Int} {xs : List Smp} (h : Ok z xs) {a : Smp} (ha : xs[xs.length - 1]? = some a) : ∀ s ∈ xs, s.t ≤ a.t := by
  intro s hs
  obtain ⟨j, hj⟩ := List.mem_iff_getElem?.1 hs
  have h1 := (List.getElem?_eq_some_iff.1 hj).1
  by_cases e : j = xs.length - 1
  · subst e
    rw [ha] at hj
    cases hj
    exact Int.le_refl _
  · exact Int.le_of_lt (rise_get h.rise (show j < xs.length - 1 by omega) hj ha)
end Go.Proofs.Ytjimaanleamgjaa
