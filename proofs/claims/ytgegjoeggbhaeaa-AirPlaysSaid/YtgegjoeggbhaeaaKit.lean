/-
  Words for memory, and small laws over them, whatever the program: a slice that reads as a list of cells; a slice of the call's own; append between the two.
-/
import Derived.Test.YtgegjoeggbhaeaaRows
import Derived.WalkKit
import Derived.WalkLawsBesides
import Derived.WalkSpells
import Derived.Handy
import Derived.Lib.Hide
import Derived.Deep.QuietTactic
import Derived.BigQuiet
import Derived.Deep.Draws
import Derived.Deep.LoopGhost
import Derived.StillTailTactics
namespace Go.Proofs.Ytgegjoeggbhaeaa
open Go.RowKit

/-! ### Slices that read as lists of cells -/
/-- The slice value '.slice A n c' holds the n * k cells xs, below block B. -/
def Rd (w : World) (B k : Nat) (A : Option Addr) (n : Nat) (xs : List Value) : Prop :=
  xs.length = n * k ∧ (0 < n → ∃ b off, A = some ⟨b, off, none⟩ ∧ b < B ∧ ∀ j u, xs[j]? = some u → w.cell? ⟨b, off + j, none⟩ = some u)

section
variable {w w' : World} {B B' k n : Nat} {A : Option Addr} {xs : List Value}
theorem Rd.keep (h : Rd w B k A n xs) (hk : ∀ p : Addr, p.block < B → w'.cell? p = w.cell? p) : Rd w' B k A n xs :=
  ⟨h.1, fun hn => by
    obtain ⟨b, off, e, hb, hc⟩ := h.2 hn
    exact ⟨b, off, e, hb, fun j u hu => (hk _ hb).trans (hc j u hu)⟩⟩
theorem Rd.more (h : Rd w B k A n xs) (hB : B ≤ B') : Rd w B' k A n xs :=
  ⟨h.1, fun hn => by
    obtain ⟨b, off, e, hb, hc⟩ := h.2 hn
    exact ⟨b, off, e, by omega, hc⟩⟩
theorem Rd.below (h : Rd w B k A n xs) (hb : Below B w w') : Rd w' B k A n xs := h.keep fun _ hp => hb.cell hp
/-- Behind a call that leaves all that was there. -/
theorem Rd.after (h : Rd w w.heap.size k A n xs) (hb : Below w.heap.size w w') : Rd w' w'.heap.size k A n xs := (h.below hb).more hb.size
theorem Rd.nil_ (w : World) (B k : Nat) (A : Option Addr) : Rd w B k A 0 [] := ⟨by simp, fun h => absurd h (by omega)⟩
/-- A cut 's[i:j]'. -/
theorem Rd.cut (h : Rd w B k A n xs) {i m : Nat} (hi : i + m ≤ n) {A' : Option Addr} (hA : 0 < m → ∀ b off, A = some ⟨b, off, none⟩ → A' = some ⟨b, off + i * k, none⟩) : Rd w B k A' m ((xs.drop (i * k)).take (m * k)) := by
  have hle : i * k + m * k ≤ n * k := by rw [← Nat.add_mul]; exact Nat.mul_le_mul_right _ hi
  refine ⟨by rw [List.length_take, List.length_drop, h.1]; omega, fun hm => ?_⟩
  obtain ⟨b, off, e, hb, hc⟩ := h.2 (by omega)
  refine ⟨b, off + i * k, hA hm b off e, hb, fun j u hu => ?_⟩
  rw [List.getElem?_take] at hu
  split at hu
  · rw [List.getElem?_drop] at hu
    rw [Nat.add_assoc]
    exact hc _ u hu
  · cases hu
end

/-- The element i of a list whose elements are spelled by k cells each. -/
theorem flat_get {α : Type} (enc : α → List Value) (k : Nat) (hk : ∀ x, (enc x).length = k) : ∀ (l : List α) (i : Nat) (x : α), l[i]? = some x → ∀ j u, (enc x)[j]? = some u → (l.flatMap enc)[i * k + j]? = some u := by
  intro l
  induction l with
  | nil => intro i x h; simp at h
  | cons y l ih =>
    intro i x h j u hu
    have hj : j < k := by have := (List.getElem?_eq_some_iff.1 hu).1; rw [hk] at this; exact this
    cases i with
    | zero =>
      simp at h
      subst h
      rw [List.flatMap_cons, Nat.zero_mul, Nat.zero_add, List.getElem?_append_left (by rw [hk]; exact hj)]
      exact hu
    | succ i =>
      rw [List.flatMap_cons, List.getElem?_append_right (by rw [hk, Nat.succ_mul]; omega), hk]
      have e : (i + 1) * k + j - k = i * k + j := by rw [Nat.succ_mul]; omega
      rw [e]
      exact ih i x (by simpa using h) j u hu

theorem flat_len {α : Type} (enc : α → List Value) (k : Nat) (hk : ∀ x, (enc x).length = k) : ∀ (l : List α), (l.flatMap enc).length = l.length * k := by
  intro l
  induction l with
  | nil => simp
  | cons y l ih => simp only [List.flatMap_cons, List.length_append, ih, hk, List.length_cons, Nat.succ_mul]; omega

theorem flat_drop {α : Type} (enc : α → List Value) (k : Nat) (hk : ∀ x, (enc x).length = k) : ∀ (l : List α) (i : Nat), (l.flatMap enc).drop (i * k) = (l.drop i).flatMap enc := by
  intro l
  induction l with
  | nil => intro i; simp
  | cons y l ih =>
    intro i
    cases i with
    | zero => simp
    | succ i =>
      rw [List.flatMap_cons, List.drop_append, hk, List.drop_eq_nil_of_le (by rw [hk, Nat.succ_mul]; omega), List.nil_append]
      have e : (i + 1) * k - k = i * k := by rw [Nat.succ_mul]; omega
      rw [e, ih i]
      rfl

theorem flat_take {α : Type} (enc : α → List Value) (k : Nat) (hk : ∀ x, (enc x).length = k) : ∀ (l : List α) (i : Nat), (l.flatMap enc).take (i * k) = (l.take i).flatMap enc := by
  intro l
  induction l with
  | nil => intro i; simp
  | cons y l ih =>
    intro i
    cases i with
    | zero => simp
    | succ i =>
      rw [List.flatMap_cons, List.take_append, hk, List.take_of_length_le (by rw [hk, Nat.succ_mul]; omega)]
      have e : (i + 1) * k - k = i * k := by rw [Nat.succ_mul]; omega
      rw [e, ih i]
      simp

/-! ### A slice of the call's own -/
/-- nil; or n elements of k cells each, from place off of block g on (g from base on; element type e; nothing of it frozen); the cells up to the capacity are there, too. -/
def Own (w : World) (base : Nat) (e : TypeId) (k : Nat) (v : Value) (n : Nat) (xs : List Value) : Prop :=
  xs.length = n * k ∧ ((v = .slice none 0 0 ∧ n = 0) ∨
    ∃ g off cap cur, v = .slice (some ⟨g, off, none⟩) n cap ∧ base ≤ g ∧ w.heap[g]? = some (.cells cur e (0, 0)) ∧ n ≤ cap ∧ cap ≤ maxLen ∧ off + cap * k ≤ cur.size ∧ (cur.toList.drop off).take (n * k) = xs)

section
variable {w w' : World} {base base' e k n : Nat} {v : Value} {xs : List Value}
theorem Own.nil_ (w : World) (base e k : Nat) : Own w base e k (.slice none 0 0) 0 [] := ⟨by simp, .inl ⟨rfl, rfl⟩⟩
/-- 'append([]T{}, ..)': the empty slice that is built there. -/
theorem Own.built (w : World) (e k : Nat) : Own (w.alloc (.cells #[] e)) w.heap.size e k (.slice (some ⟨w.heap.size, 0, none⟩) 0 0) 0 [] :=
  ⟨by simp, .inr ⟨w.heap.size, 0, 0, #[], rfl, Nat.le_refl _, heap_alloc_new w _, Nat.le_refl _, by simp [maxLen], by simp, by simp⟩⟩
theorem Own.of_row (h : w.ownsRow base e k v n xs) : Own w base e k v n xs := by
  refine ⟨h.1, ?_⟩
  rcases h.2 with h | ⟨g, cap, cur, hv, hb, hh, hn, hc, hs, ht⟩
  · exact .inl h
  · exact .inr ⟨g, 0, cap, cur, hv, hb, hh, hn, hc, by omega, by simpa using ht⟩
/-- The shape of the value. -/
theorem Own.form (h : Own w base e k v n xs) : ∃ A c, v = .slice A n c ∧ n ≤ c ∧ c ≤ maxLen ∧ (A = none → n = 0 ∧ c = 0) := by
  rcases h.2 with ⟨rfl, rfl⟩ | ⟨g, off, cap, cur, rfl, _, _, hn, hc, _⟩
  · exact ⟨none, 0, rfl, Nat.le_refl _, by simp [maxLen], fun _ => ⟨rfl, rfl⟩⟩
  · exact ⟨_, cap, rfl, hn, hc, fun h => by cases h⟩
theorem Own.block (h : Own w base e k v n xs) : ∀ g, v.ownBlock = some g → base ≤ g ∧ g < w.heap.size := by
  intro g hg
  rcases h.2 with ⟨rfl, _⟩ | ⟨g', off, cap, cur, rfl, hb, hh, _⟩
  · simp [Value.ownBlock] at hg
  · simp [Value.ownBlock] at hg
    subst hg
    exact ⟨hb, (Array.getElem?_eq_some_iff.1 hh).1⟩
theorem Own.keep (h : Own w base e k v n xs) (hk : ∀ g, v.ownBlock = some g → w'.heap[g]? = w.heap[g]?) : Own w' base e k v n xs := by
  refine ⟨h.1, ?_⟩
  rcases h.2 with h0 | ⟨g, off, cap, cur, rfl, hb, hh, r⟩
  · exact .inl h0
  · exact .inr ⟨g, off, cap, cur, rfl, hb, by rw [hk g rfl]; exact hh, r⟩
theorem Own.below (h : Own w base e k v n xs) (hb : Below w.heap.size w w') : Own w' base e k v n xs := h.keep fun g hg => hb.block g (h.block g hg).2
theorem Own.drew (h : Own w base e k v n xs) : Own w.drew base e k v n xs := h
theorem Own.alloc (h : Own w base e k v n xs) (o : Obj) : Own (w.alloc o) base e k v n xs := h.keep fun g hg => Below.heap_alloc w o g (h.block g hg).2
theorem Own.base_ (h : Own w base e k v n xs) (hb : ∀ g, v.ownBlock = some g → base' ≤ g) : Own w base' e k v n xs := by
  refine ⟨h.1, ?_⟩
  rcases h.2 with h0 | ⟨g, off, cap, cur, rfl, _, r⟩
  · exact .inl h0
  · exact .inr ⟨g, off, cap, cur, rfl, hb g rfl, r⟩
/-- What the call owns it can read. -/
theorem Own.rd {A : Option Addr} {c : Nat} (h : Own w base e k (.slice A n c) n xs) : Rd w w.heap.size k A n xs := by
  refine ⟨h.1, fun hn => ?_⟩
  rcases h.2 with ⟨_, h0⟩ | ⟨g, off, cap, cur, hv, _, hh, _, _, hs, ht⟩
  · omega
  · injection hv with hA _ _
    refine ⟨g, off, hA, (Array.getElem?_eq_some_iff.1 hh).1, fun j u hu => ?_⟩
    rw [cell_of_row w g (off + j) cur e (0, 0) hh, ← Array.getElem?_toList]
    rw [← ht, List.getElem?_take] at hu
    split at hu
    · rwa [List.getElem?_drop] at hu
    · cases hu
/-- 's[i:j]', 's[i:]', 's[:j:c]' of a slice of the call's own. -/
theorem Own.cut {g off cap : Nat} (h : Own w base e k (.slice (some ⟨g, off, none⟩) n cap) n xs) {i m c : Nat} (him : i + m ≤ n) (hm : m ≤ c) (hc : i + c ≤ cap) :
    Own w base e k (.slice (some ⟨g, off + i * k, none⟩) m c) m ((xs.drop (i * k)).take (m * k)) := by
  rcases h.2 with ⟨h0, _⟩ | ⟨g', off', cap', cur, hv, hb, hh, hn, hcm, hs, ht⟩
  · cases h0
  · injection hv with hA _ hcap
    injection hA with hA
    injection hA with hg ho
    subst hg ho hcap
    have hle : i * k + m * k ≤ n * k := by rw [← Nat.add_mul]; exact Nat.mul_le_mul_right _ him
    have hle2 : i * k + c * k ≤ cap * k := by rw [← Nat.add_mul]; exact Nat.mul_le_mul_right _ hc
    refine ⟨by rw [List.length_take, List.length_drop, h.1]; omega, .inr ⟨g, off + i * k, c, cur, rfl, hb, hh, hm, by omega, by omega, ?_⟩⟩
    rw [← ht, List.drop_take, List.take_take, List.drop_drop, Nat.min_eq_left (by omega)]

end

/-- Two rows whose element types differ are never one block. -/
theorem Own.apart {w : World} {b1 b2 e1 e2 k1 k2 n1 n2 : Nat} {v1 v2 : Value} {xs1 xs2 : List Value} (h1 : Own w b1 e1 k1 v1 n1 xs1) (h2 : Own w b2 e2 k2 v2 n2 xs2) (he : e1 ≠ e2) (g : Nat) (hg : v2.ownBlock = some g) : some g ≠ v1.ownBlock := by
  intro h
  rcases h1.2 with ⟨rfl, _⟩ | ⟨g1, off1, cap1, cur1, rfl, _, hh1, _⟩
  · simp [Value.ownBlock] at h
  rcases h2.2 with ⟨rfl, _⟩ | ⟨g2, off2, cap2, cur2, rfl, _, hh2, _⟩
  · simp [Value.ownBlock] at hg
  simp [Value.ownBlock] at h hg
  subst h
  subst hg
  rw [hh1] at hh2
  injection hh2 with hh2
  injection hh2 with _ hh2 _
  exact he hh2
/-- The other row behind an append. -/
theorem Own.other {w w' : World} {b1 b2 e1 e2 k1 k2 n1 n2 : Nat} {v1 v2 : Value} {xs1 xs2 : List Value} (h2 : Own w b2 e2 k2 v2 n2 xs2) (h1 : Own w b1 e1 k1 v1 n1 xs1) (he : e1 ≠ e2) (hg : w.grownBy w' v1.ownBlock) : Own w' b2 e2 k2 v2 n2 xs2 :=
  h2.keep fun g h => hg.block g (h2.block g h).2 (Own.apart h1 h2 he g h)
/-- The slice of a block that was laid just now. -/
theorem Rd.new (w : World) (cs : Array Value) (t k n : Nat) (h : cs.size = n * k) : Rd (w.alloc (.cells cs t)) (w.heap.size + 1) k (some ⟨w.heap.size, 0, none⟩) n cs.toList :=
  ⟨by simpa using h, fun _ => ⟨w.heap.size, 0, rfl, Nat.lt_succ_self _, fun j u hu => by
    rw [cell_of_row _ _ (0 + j) cs t (0, 0) (heap_alloc_new w _)]; simpa using hu⟩⟩

theorem Rd.newE {w : World} {cs : Array Value} {t k n g B : Nat} {news : List Value} (hg : g = w.heap.size) (hB : B = g + 1) (hn : cs.toList = news) (h : cs.size = n * k) : Rd (w.alloc (.cells cs t)) B k (some ⟨g, 0, none⟩) n news := by
  subst hg hB hn
  exact Rd.new w cs t k n h

section
variable {P : Program} (w : World)

/-- append(s, x...): s of the call's own, x whatever slice that reads; where there is room s's own array is written, else a new one is made. -/
theorem run_append_rd (base : Nat) (t ty e : TypeId) (i : TypeInfo) (z : Value) (size bytes : Nat) (ht : P.underlying t = some (.slice e)) (hi : P.info? e = some i) (hz : i.zero = some z)
    (hsize : i.size = size) (hby : i.bytes = bytes) (hzs : z.cells.size = size) (hsz : 0 < size)
    (v : Value) (n : Nat) (xs : List Value) (hown : Own w base e size v n xs)
    (B : Nat) (A : Option Addr) (m c : Nat) (news : List Value) (hr : Rd w B size A m news) (hA : A = none → c = 0) (h1 : ∀ u ∈ news, u.oneCell' = true)
    (h63 : n + m ≤ maxLen) (hbytes : (n + m) * bytes ≤ 140737488355328) (hbase : base ≤ w.heap.size) :
    ∃ v' w', (Builtin.append_ #[t, t] ty #[v, .slice A m c]).run P w = .ok v' w' ∧ Own w' base e size v' (n + m) (xs ++ news) ∧ w.grownBy w' v.ownBlock ∧ (v'.ownBlock = v.ownBlock ∨ v'.ownBlock = some w.heap.size) := by
  have hl : news.length = m * size := hr.1
  have h63' : n + m ≤ 9223372036854775807 := by simpa [maxLen] using h63
  cases A with
  | none =>
    have hm : m = 0 := by
      rcases Nat.eq_zero_or_pos m with h | h
      · exact h
      · obtain ⟨_, _, h, _⟩ := hr.2 h; cases h
    subst hm
    obtain rfl := hA rfl
    obtain rfl : news = [] := List.eq_nil_of_length_eq_zero (by simpa using hl)
    refine ⟨v, w, ?_, by simpa using hown, ⟨rfl, rfl, rfl, Nat.le_refl _, fun _ _ _ => rfl⟩, .inl rfl⟩
    rcases hown.2 with ⟨rfl, rfl⟩ | ⟨g, off, cap, cur, rfl, _, _, hnc, _⟩
    · simp [Builtin.append_, run_underlying ht, sizeOf, typeInfo, hi, Builtin.lenOf, Builtin.firstCells]
    · simp [Builtin.append_, run_underlying ht, sizeOf, typeInfo, hi, Builtin.lenOf, Builtin.firstCells, hnc, storeCells]
  | some a =>
    have hnews : ∀ j u, news[j]? = some u → w.cell? (a.add j) = some u := by
      intro j u hu
      have hm : 0 < m := by
        rcases Nat.eq_zero_or_pos m with h | h
        · subst h
          obtain rfl : news = [] := List.eq_nil_of_length_eq_zero (by simpa using hl)
          simp at hu
        · exact h
      obtain ⟨b, off, e1, _, hc⟩ := hr.2 hm
      injection e1 with e1
      subst e1
      rw [Addr.add_lit]
      exact hc j u hu
    rcases hown.2 with ⟨rfl, rfl⟩ | ⟨g, off, cap, cur, rfl, hbg, hg, hnc, hcm, hcs, htake⟩
    · obtain rfl : xs = [] := List.eq_nil_of_length_eq_zero (by simpa using hown.1)
      obtain ⟨v', w', hrun, h2, h3, h4⟩ := run_append_own (P := P) w w.heap.size t ty e i z size bytes ht hi hz hsize hby hzs hsz (.slice none 0 0) 0 [] (World.ownsRow_nil w _ e size) a m c news hl hnews h1 h63 hbytes (Nat.le_refl _)
      refine ⟨v', w', hrun, ?_, h3, ?_⟩
      · exact (Own.of_row h2).base_ (fun g hg => Nat.le_trans hbase (h2.lt g hg).1)
      · rcases h2.2 with ⟨rfl, _⟩ | ⟨g, cap, cur, rfl, hb, hh, _⟩
        · exact .inl rfl
        · by_cases e0 : g = w.heap.size
          · exact .inr (by simp [Value.ownBlock, e0])
          · exfalso
            by_cases hm0 : m = 0
            · have := h4.2 ⟨rfl, hm0⟩; cases this
            · have hr2 := run_append_nil (P := P) w t ty e i z ht hi hz a m c news (by rw [hl, hsize]) hnews (by omega) (by omega) (by rw [hby]; simp only [Nat.zero_add] at hbytes; omega)
              rw [hr2] at hrun
              injection hrun with hv hw
              injection hv with hv _ _
              injection hv with hv
              injection hv with hv _ _
              exact e0 hv.symm
    · by_cases hroom : n + m ≤ cap
      · have hfit : off + n * size + news.length ≤ cur.size := by
          rw [hl]
          have : n * size + m * size ≤ cap * size := by rw [← Nat.add_mul]; exact Nat.mul_le_mul_right _ hroom
          omega
        have hfc := run_firstCells_some (P := P) w i.size m a m c news (by rw [hl, hsize]) hnews
        have hst := run_storeCells_at P g (off + n * i.size) e news 0 cur w hg (by rw [hsize]; simpa using hfit) h1
        simp only [Nat.add_zero] at hst
        refine ⟨.slice (some ⟨g, off, none⟩) (n + m) cap, w.setRow g (cur.toList.take (off + n * i.size) ++ news ++ cur.toList.drop (off + n * i.size + news.length)).toArray, ?_, ⟨?_, .inr ⟨g, off, cap, _, rfl, hbg, setRow_heap w g cur _ e _ hg, hroom, hcm, ?_, ?_⟩⟩, ⟨rfl, rfl, rfl, by simp, fun j _ hj => setRow_other w g j _ (fun e => hj (by simp [Value.ownBlock, e]))⟩, .inl rfl⟩
        · simp [Builtin.append_, run_underlying ht, sizeOf, typeInfo, hi, Builtin.lenOf, hroom, hfc, Addr.add_lit, hst]
        · rw [List.length_append, hown.1, hl, Nat.add_mul]
        · simp only [List.size_toArray, List.length_append, List.length_take, List.length_drop, Array.length_toList, hsize]
          omega
        · simp only [hsize, List.append_assoc]
          have hlt : (cur.toList.take (off + n * size)).length = off + n * size := by rw [List.length_take, Array.length_toList]; omega
          rw [List.drop_append, hlt, show off - (off + n * size) = 0 from by omega, List.drop_zero, List.drop_take, show off + n * size - off = n * size from by omega, htake]
          rw [← List.append_assoc, List.take_append_of_le_length (by rw [List.length_append, hown.1, hl, Nat.add_mul]; omega)]
          exact List.take_of_length_le (by rw [List.length_append, hown.1, hl, Nat.add_mul]; omega)
      · have holds : ∀ j u, xs[j]? = some u → w.cell? ((⟨g, off, none⟩ : Addr).add j) = some u := by
          intro j u hu
          rw [Addr.add_lit, cell_of_row w g (off + j) cur e (0, 0) hg, ← Array.getElem?_toList]
          rw [← htake, List.getElem?_take] at hu
          split at hu
          · rwa [List.getElem?_drop] at hu
          · cases hu
        obtain ⟨v', w', hrun, h2, h3⟩ := run_append_arg_grows (P := P) w t ty e i z size bytes ht hi hz hsize hby hzs hsz ⟨g, off, none⟩ n cap xs hown.1 holds a m c news hl hnews (by omega) h63 hbytes
        have hr2 := run_append_grow (P := P) w t ty e i z ht hi hz ⟨g, off, none⟩ n cap xs (by rw [hsize]; exact hown.1) holds a m c news (by rw [hsize]; exact hl) hnews (by omega) (by omega) (growslice_fits (by omega) (by rw [hby]; exact hbytes))
        have hv' : v'.ownBlock = some w.heap.size := by
          rw [hr2] at hrun
          injection hrun with hv hw
          rw [← hv]
          rfl
        exact ⟨v', w', hrun, (Own.of_row h2).base_ (fun g hg => Nat.le_trans hbase (h2.lt g hg).1), ⟨h3.os, h3.tape, h3.output, h3.size, fun j hj _ => h3.block j hj (by simp)⟩, .inr hv'⟩

theorem wp_append_rd {o : Oper} {a : Act} {K : Act → World → Prop} {Q : Exit → Act → World → Prop} (s x : Operand) (t : TypeId)
    (ho : o.op = .call { callee := .builtin .append, args := #[s, x], argTypes := #[t, t] })
    (base : Nat) (e : TypeId) (i : TypeInfo) (z : Value) (size bytes : Nat) (ht : P.underlying t = some (.slice e)) (hi : P.info? e = some i) (hz : i.zero = some z)
    (hsize : i.size = size) (hby : i.bytes = bytes) (hzs : z.cells.size = size) (hsz : 0 < size)
    (v : Value) (n : Nat) (xs : List Value) (hs : a.eval s = v) (hown : Own w base e size v n xs)
    (B : Nat) (A : Option Addr) (m c : Nat) (news : List Value) (hx : a.eval x = .slice A m c) (hr : Rd w B size A m news) (hA : A = none → c = 0) (h1 : ∀ u ∈ news, u.oneCell' = true)
    (h63 : n + m ≤ maxLen) (hbytes : (n + m) * bytes ≤ 140737488355328) (hbase : base ≤ w.heap.size)
    (h : ∀ v' w', Own w' base e size v' (n + m) (xs ++ news) → w.grownBy w' v.ownBlock → (v'.ownBlock = v.ownBlock ∨ v'.ownBlock = some w.heap.size) → K (a.put o.dst v') w') : o.wp P a w K Q := by
  obtain ⟨v', w', hrun, h2, h3, h4⟩ := run_append_rd (P := P) w base t o.type e i z size bytes ht hi hz hsize hby hzs hsz v n xs hown B A m c news hr hA h1 h63 hbytes hbase
  unfold Oper.wp execOp
  simp only [ho, resolve, invoke, builtin, Sem.run_bind, Sem.run_pure, Result.andThen_ok, List.map_toArray, List.map_cons, List.map_nil, hs, hx, hrun]
  exact h v' w' h2 h3 h4

theorem wpList_append_rd {ops : Array Oper} {rest : List Oper} {o : Oper} {a : Act} {Q : Exit → Act → World → Prop} (hgd : o.guard = none) (s x : Operand) (t : TypeId)
    (ho : o.op = .call { callee := .builtin .append, args := #[s, x], argTypes := #[t, t] })
    (base : Nat) (e : TypeId) (i : TypeInfo) (z : Value) (size bytes : Nat) (ht : P.underlying t = some (.slice e)) (hi : P.info? e = some i) (hz : i.zero = some z)
    (hsize : i.size = size) (hby : i.bytes = bytes) (hzs : z.cells.size = size) (hsz : 0 < size)
    (v : Value) (n : Nat) (xs : List Value) (hs : a.eval s = v) (hown : Own w base e size v n xs)
    (B : Nat) (A : Option Addr) (m c : Nat) (news : List Value) (hx : a.eval x = .slice A m c) (hr : Rd w B size A m news) (hA : A = none → c = 0) (h1 : ∀ u ∈ news, u.oneCell' = true)
    (h63 : n + m ≤ maxLen) (hbytes : (n + m) * bytes ≤ 140737488355328) (hbase : base ≤ w.heap.size)
    (h : ∀ v' w', Own w' base e size v' (n + m) (xs ++ news) → w.grownBy w' v.ownBlock → (v'.ownBlock = v.ownBlock ∨ v'.ownBlock = some w.heap.size) → wpList P ops Q rest (a.put o.dst v') w') : wpList P ops Q (o :: rest) a w :=
  wpList_plain hgd fun _ hK => wp_append_rd w s x t ho base e i z size bytes ht hi hz hsize hby hzs hsz v n xs hs hown B A m c news hx hr hA h1 h63 hbytes hbase fun v' w' h2 h3 h4 => hK _ _ (h v' w' h2 h3 h4)

theorem step_append_rd {ops : Array Oper} {o : Oper} {a : Act} {K : Act → World → Prop} {Q : Exit → Act → World → Prop} {E : Prop} (hgd : o.guard = none) (s x : Operand) (t : TypeId)
    (ho : o.op = .call { callee := .builtin .append, args := #[s, x], argTypes := #[t, t] })
    (base : Nat) (e : TypeId) (i : TypeInfo) (z : Value) (size bytes : Nat) (ht : P.underlying t = some (.slice e)) (hi : P.info? e = some i) (hz : i.zero = some z)
    (hsize : i.size = size) (hby : i.bytes = bytes) (hzs : z.cells.size = size) (hsz : 0 < size)
    (v : Value) (n : Nat) (xs : List Value) (hs : a.eval s = v) (hown : Own w base e size v n xs)
    (B : Nat) (A : Option Addr) (m c : Nat) (news : List Value) (hx : a.eval x = .slice A m c) (hr : Rd w B size A m news) (hA : A = none → c = 0) (h1 : ∀ u ∈ news, u.oneCell' = true)
    (h63 : n + m ≤ maxLen) (hbytes : (n + m) * bytes ≤ 140737488355328) (hbase : base ≤ w.heap.size)
    (h : ∀ v' w', Own w' base e size v' (n + m) (xs ++ news) → w.grownBy w' v.ownBlock → (v'.ownBlock = v.ownBlock ∨ v'.ownBlock = some w.heap.size) → K (a.put o.dst v') w') :
    if Region.wanted o (yielded ops a.tmps) = true then Oper.wp P o a w K Q else E := by
  have hw : Region.wanted o (yielded ops a.tmps) = true := by simp [Region.wanted, hgd]
  rw [if_pos hw]
  exact wp_append_rd w s x t ho base e i z size bytes ht hi hz hsize hby hzs hsz v n xs hs hown B A m c news hx hr hA h1 h63 hbytes hbase h
end

theorem below_drewN {B : Nat} {a w : World} (h : Below B a w) (n : Nat) : Below B a (w.drewN n) := ⟨h.os, h.tape, h.output, h.size, h.block⟩
theorem ret_int {k : IntKind} {a b : Int} (h : a = b) : Ending.returned (.int k a) = .returned (.int k b) := by rw [h]
theorem ret_bool {a b : Bool} (h : a = b) : Ending.returned (.bool a) = .returned (.bool b) := by rw [h]
theorem ret2_int {a b c d : Int} (h : a = c) (k : b = d) : Ending.returned (.tuple #[.int .i64 a, .int .i64 b]) = .returned (.tuple #[.int .i64 c, .int .i64 d]) := by rw [h, k]
theorem u64_nn (n : Int) : 0 ≤ IntKind.u64.wrap n := by
  simp [IntKind.wrap, IntKind.bits, IntKind.signed]; omega

theorem cell_after {w w' : World} {a : Addr} {v : Value} (hb : Below w.heap.size w w') (h : w.cell? a = some v) : w'.cell? a = some v := (hb.cell (World.block_lt_of_cell? w a h)).trans h
theorem cell_alloc {w : World} {a : Addr} {v : Value} {o : Obj} (h : w.cell? a = some v) : (w.alloc o).cell? a = some v := (World.cell?_alloc_lt w o a (World.block_lt_of_cell? w a h)).trans h
theorem below_after {B : Nat} {w a b : World} (h : Below B w a) (k : Below a.heap.size a b) (hB : B ≤ a.heap.size) : Below B w b := h.trans (k.mono hB)
theorem heap_at (w : World) (o : Obj) (n : Nat) (h : n = w.heap.size) : (w.alloc o).heap[n]? = some o := by subst h; exact heap_alloc_new w o
theorem heap_old (w : World) (o : Obj) (n : Nat) (h : n < w.heap.size) : (w.alloc o).heap[n]? = w.heap[n]? := Below.heap_alloc w o n h
theorem rem_nat (x : Int) (m : Int) (hm : 0 < m) : ∃ k : Nat, IntKind.u64.wrap x % m = (k : Int) ∧ (k : Int) < m := by
  obtain ⟨k, hk⟩ := Int.eq_ofNat_of_zero_le (Int.emod_nonneg (IntKind.u64.wrap x) (show m ≠ 0 by omega))
  have := Int.emod_lt_of_pos (IntKind.u64.wrap x) hm
  exact ⟨k, hk, by omega⟩

/-! ### A struct behind a pointer: block g alone -/
theorem grown_refl (w : World) (o : Option Nat) : w.grownBy w o := ⟨rfl, rfl, rfl, Nat.le_refl _, fun _ _ _ => rfl⟩
theorem grown_of_below {w w' : World} (h : Below w.heap.size w w') (o : Option Nat) : w.grownBy w' o := ⟨h.os, h.tape, h.output, h.size, fun j hj _ => h.block j hj⟩
theorem grown_trans {w a b : World} {o : Option Nat} (h : w.grownBy a o) (k : a.grownBy b o) : w.grownBy b o :=
  ⟨k.os.trans h.os, k.tape.trans h.tape, k.output.trans h.output, Nat.le_trans h.size k.size, fun j hj hn => (k.block j (Nat.lt_of_lt_of_le hj h.size) hn).trans (h.block j hj hn)⟩
/-- What grows a row that lies behind w's blocks. -/
theorem grown_new {w a b : World} {o r : Option Nat} (h : w.grownBy a o) (k : a.grownBy b r) (hr : ∀ g, r = some g → w.heap.size ≤ g) : w.grownBy b o :=
  ⟨k.os.trans h.os, k.tape.trans h.tape, k.output.trans h.output, Nat.le_trans h.size k.size, fun j hj hn => (k.block j (Nat.lt_of_lt_of_le hj h.size) (fun e => by have := hr j e.symm; omega)).trans (h.block j hj hn)⟩
theorem grown_set {w a : World} {g : Nat} (h : w.grownBy a (some g)) (i : Nat) (v : Value) : w.grownBy (a.setCell ⟨g, i, none⟩ v) (some g) :=
  ⟨h.os, h.tape, h.output, by rw [World.size_setCell]; exact h.size, fun j hj hn => (heap_setCell_other a _ j v (fun e => hn (by rw [e]))).trans (h.block j hj hn)⟩
theorem below_grown {w w' : World} {g B : Nat} (h : w.grownBy w' (some g)) (hB : B ≤ g) (hs : B ≤ w.heap.size) : Below B w w' :=
  ⟨h.os, h.tape, h.output, h.size, fun j hj => h.block j (by omega) (fun e => by injection e; omega)⟩
/-- A row of another type than block g's stands where g alone has turned. -/
theorem Own.beside {w w' : World} {b e k n g t : Nat} {v : Value} {xs : List Value} {cs : Array Value} (h : Own w b e k v n xs) (hg : w.heap[g]? = some (.cells cs t (0, 0))) (he : t ≠ e) (hw : w.grownBy w' (some g)) : Own w' b e k v n xs :=
  h.keep fun j hj => hw.block j (h.block j hj).2 (fun e0 => by
    injection e0 with e0
    subst e0
    rcases h.2 with ⟨rfl, _⟩ | ⟨g1, off, cap, cur, rfl, _, hh, _⟩
    · simp [Value.ownBlock] at hj
    · simp [Value.ownBlock] at hj
      subst hj
      rw [hg] at hh
      injection hh with hh
      injection hh with _ hh _
      exact he hh)

end Go.Proofs.Ytgegjoeggbhaeaa
