import Derived.Test.YtjimaanleamgjaaT2
import Derived.Lib.Overlaps
import Derived.Lib.AppendZerosOnto
import Derived.Deep.RegionLaw
namespace Go.Proofs.Ytjimaanleamgjaa
open Go.RowKit

/-- The cells cs laid over L from place o on. -/
def over (L : List Value) (o : Nat) (cs : List Value) : List Value := L.take o ++ (cs ++ L.drop (o + cs.length))
theorem over_len {L : List Value} {o : Nat} {cs : List Value} (h : o + cs.length ≤ L.length) : (over L o cs).length = L.length := by simp [over]; omega
theorem over_get {L : List Value} {o : Nat} {cs : List Value} (h : o + cs.length ≤ L.length) (j : Nat) : (over L o cs)[j]? = if j < o then L[j]? else if j < o + cs.length then cs[j - o]? else L[j]? := by
  have hl : (L.take o).length = o := by rw [List.length_take]; omega
  unfold over
  by_cases h1 : j < o
  · rw [if_pos h1, List.getElem?_append_left (by omega), List.getElem?_take, if_pos h1]
  · rw [if_neg h1, List.getElem?_append_right (by omega), hl]
    by_cases h2 : j < o + cs.length
    · rw [if_pos h2, List.getElem?_append_left (by omega)]
    · rw [if_neg h2, List.getElem?_append_right (by omega), List.getElem?_drop]
      congr 1
      omega

section
variable {P : Program}
/-- copy(d, s), whatever the elements' size: block g is written. -/
theorem run_copy_sz (w : World) (dT sT ty elem : TypeId) (k g o dLen dCap : Nat) (a : Addr) (sLen sCap : Nat) (cur : List Value) (t : TypeId) (cs : List Value)
    (hu : P.underlying dT = some (.slice elem)) (hs : (P.info? elem).map (·.size) = some k)
    (hg : w.heap[g]? = some (.cells cur.toArray t (0, 0))) (hn : cs.length = Nat.min sLen dLen * k)
    (hsrc : ∀ j v, cs[j]? = some v → w.cell? (a.add j) = some v) (hfit : o + cs.length ≤ cur.length) (h1 : ∀ v ∈ cs, v.oneCell' = true) :
    (Builtin.copy_ #[dT, sT] ty #[.slice (some ⟨g, o, none⟩) dLen dCap, .slice (some a) sLen sCap]).run P w =
      .ok (goInt (Nat.min sLen dLen)) (w.setRow g (over cur o cs).toArray) := by
  have hl := run_firstCells_some (P := P) w k (Nat.min sLen dLen) a sLen sCap cs hn hsrc
  have hst := run_storeCells_at P g o t cs 0 cur.toArray w hg (by simpa using hfit) h1
  cases hq : P.info? elem with
  | none => simp [hq] at hs
  | some i =>
    have hi : i.size = k := by simpa [hq] using hs
    simp [Builtin.copy_, run_underlying hu, Builtin.lenOf, sizeOf, typeInfo, hq, hi, hl, hst, over]

theorem wpList_copy_sz {w : World} {ops : Array Oper} {rest : List Oper} {o : Oper} {a : Act} {Q : Exit → Act → World → Prop} (hgd : o.guard = none) (d s : Operand) (dT sT : TypeId)
    (ho : o.op = .call { callee := .builtin .copy, args := #[d, s], argTypes := #[dT, sT] }) (elem : TypeId) (k : Nat) (hu : P.underlying dT = some (.slice elem)) (hsz : (P.info? elem).map (·.size) = some k)
    (g off : Nat) (ad : Addr) (dLen dCap sLen sCap : Nat) (hd : a.eval d = .slice (some ⟨g, off, none⟩) dLen dCap) (hs : a.eval s = .slice (some ad) sLen sCap)
    (cur : List Value) (t : TypeId) (hg : w.heap[g]? = some (.cells cur.toArray t (0, 0))) (cs : List Value) (hn : cs.length = Nat.min sLen dLen * k)
    (hsrc : ∀ j v, cs[j]? = some v → w.cell? (ad.add j) = some v)
    (hfit : off + cs.length ≤ cur.length) (h1 : ∀ v ∈ cs, v.oneCell' = true)
    (h : ∀ w', Hid (w'.heap[g]? = some (.cells (over cur off cs).toArray t (0, 0))) → w.grownBy w' (some g) → wpList P ops Q rest (a.put o.dst (goInt (Nat.min sLen dLen))) w') :
    wpList P ops Q (o :: rest) a w := by
  refine wpList_plain hgd fun K hK => ?_
  have hrun := run_copy_sz (P := P) w dT sT o.type elem k g off dLen dCap ad sLen sCap cur t cs hu hsz hg hn hsrc hfit h1
  unfold Oper.wp
  simp [execOp, ho, resolve, invoke, builtin, hd, hs, hrun, Result.andThen]
  exact hK _ _ (h _ (show _ = _ from setRow_heap w g _ _ t _ hg) ⟨rfl, rfl, rfl, by simp [World.setRow], fun j _ hj => setRow_other w g j _ (fun e => hj (by simp [e]))⟩)

theorem step_copy_sz {w : World} {ops : Array Oper} {o : Oper} {a : Act} {K : Act → World → Prop} {Q : Exit → Act → World → Prop} {E : Prop} (hgd : o.guard = none) (d s : Operand) (dT sT : TypeId)
    (ho : o.op = .call { callee := .builtin .copy, args := #[d, s], argTypes := #[dT, sT] }) (elem : TypeId) (k : Nat) (hu : P.underlying dT = some (.slice elem)) (hsz : (P.info? elem).map (·.size) = some k)
    (g off : Nat) (ad : Addr) (dLen dCap sLen sCap : Nat) (hd : a.eval d = .slice (some ⟨g, off, none⟩) dLen dCap) (hs : a.eval s = .slice (some ad) sLen sCap)
    (cur : List Value) (t : TypeId) (hg : w.heap[g]? = some (.cells cur.toArray t (0, 0))) (cs : List Value) (hn : cs.length = Nat.min sLen dLen * k)
    (hsrc : ∀ j v, cs[j]? = some v → w.cell? (ad.add j) = some v)
    (hfit : off + cs.length ≤ cur.length) (h1 : ∀ v ∈ cs, v.oneCell' = true)
    (h : ∀ w', Hid (w'.heap[g]? = some (.cells (over cur off cs).toArray t (0, 0))) → w.grownBy w' (some g) → K (a.put o.dst (goInt (Nat.min sLen dLen))) w') :
    if Region.wanted o (yielded ops a.tmps) = true then Oper.wp P o a w K Q else E := by
  have hw : Region.wanted o (yielded ops a.tmps) = true := by simp [Region.wanted, hgd]
  rw [if_pos hw]
  have hrun := run_copy_sz (P := P) w dT sT o.type elem k g off dLen dCap ad sLen sCap cur t cs hu hsz hg hn hsrc hfit h1
  unfold Oper.wp
  simp [execOp, ho, resolve, invoke, builtin, hd, hs, hrun, Result.andThen]
  exact h _ (show _ = _ from setRow_heap w g _ _ t _ hg) ⟨rfl, rfl, rfl, by simp [World.setRow], fun j _ hj => setRow_other w g j _ (fun e => hj (by simp [e]))⟩
end

theorem ins_cells {off a : Nat} {cur X E : List Value} {n : Nat} (hX : (cur.drop off).take n = X) (hn : X.length = n) (ha : a ≤ n) (hE : E.length = 2) (hl : off + n + 2 ≤ cur.length) :
    ((over (over cur (off + (a + 2)) (X.drop a)) (off + a) E).drop off).take (n + 2) = X.take a ++ (E ++ X.drop a) := by
  have l1 : (X.drop a).length = n - a := by rw [List.length_drop]; omega
  have l2 : (over cur (off + (a + 2)) (X.drop a)).length = cur.length := over_len (by omega)
  apply List.ext_getElem?
  intro j
  rw [List.getElem?_take]
  have la : (X.take a).length = a := by rw [List.length_take]; omega
  by_cases hj : j < n + 2
  · rw [if_pos hj, List.getElem?_drop, over_get (by omega), over_get (by omega)]
    by_cases c1 : j < a
    · rw [if_pos (by omega), if_pos (by omega), List.getElem?_append_left (by omega), List.getElem?_take, if_pos c1, ← hX, List.getElem?_take, if_pos (by omega), List.getElem?_drop]
    · rw [if_neg (by omega), List.getElem?_append_right (by omega), la]
      by_cases c2 : j < a + 2
      · rw [if_pos (by omega), List.getElem?_append_left (by omega)]
        congr 1
        omega
      · rw [if_neg (by omega), if_neg (by omega), if_pos (by omega), List.getElem?_append_right (by omega), hE]
        congr 1
        omega
  · rw [if_neg hj]
    symm
    apply List.getElem?_eq_none
    rw [List.length_append, List.length_append]
    omega

theorem grow_cells {a : Nat} {X E Z Y : List Value} {n : Nat} (hn : X.length = n) (ha : a ≤ n) (hE : E.length = 2) (hZ : Z.length = n + 2 - a) :
    ((over (over (X.take a ++ (Z ++ Y)) a E) (a + 2) (X.drop a)).drop 0).take (n + 2) = X.take a ++ (E ++ X.drop a) := by
  have l1 : (X.drop a).length = n - a := by rw [List.length_drop]; omega
  have la : (X.take a).length = a := by rw [List.length_take]; omega
  have lr : (X.take a ++ (Z ++ Y)).length = n + 2 + Y.length := by rw [List.length_append, List.length_append, la]; omega
  have l2 : (over (X.take a ++ (Z ++ Y)) a E).length = n + 2 + Y.length := by rw [over_len (by omega), lr]
  apply List.ext_getElem?
  intro j
  rw [List.drop_zero, List.getElem?_take]
  by_cases hj : j < n + 2
  · rw [if_pos hj, over_get (by omega), over_get (by omega)]
    by_cases c1 : j < a
    · rw [if_pos (by omega), if_pos (by omega), List.getElem?_append_left (by omega), List.getElem?_append_left (by omega)]
    · have eR : (X.take a ++ (E ++ X.drop a))[j]? = (E ++ X.drop a)[j - a]? := by rw [List.getElem?_append_right (by omega), la]
      rw [eR]
      by_cases c2 : j < a + 2
      · rw [if_pos (by omega), if_neg (by omega), if_pos (by omega), List.getElem?_append_left (by omega)]
      · rw [if_neg (by omega), if_pos (by omega), List.getElem?_append_right (by omega), hE]
        congr 1
  · rw [if_neg hj]
    symm
    apply List.getElem?_eq_none
    rw [List.length_append, List.length_append]
    omega

/-- What Insert hands back. -/
def Placed (w : World) (base : Nat) (v : Value) (n : Nat) (ys : List Smp) (e : Ending) (w' : World) : Prop :=
  ∃ v', e = .returned v' ∧ Own w' base 30 2 v' n (ys.flatMap Smp.enc) ∧ w.grownBy w' v.ownBlock

/-- slices.Insert(s, len(s), x). -/
theorem insert_end (base : Nat) (v : Value) (n : Nat) (xs : List Smp) (s : Smp) (vb : Nat) (w : World) (hl : xs.length = n) (hown : Own w base 30 2 v n (xs.flatMap Smp.enc)) (hb : base ≤ w.heap.size)
    (hn : n ≤ 64) (hvb : w.heap[vb]? = some (.cells s.enc.toArray 30 (0, 0))) :
    Calls Try.prog 18 #[v, .int .i64 n, .slice (some ⟨vb, 0, none⟩) 1 1] w (Placed w base v (n + 1) (xs ++ [s])) := by
  obtain ⟨i0, hi, hz0, hz1, hz2⟩ := info_parts smp_info
  obtain ⟨A, c, rfl, hnc, hcm, hnil⟩ := hown.form
  have hrd : Rd w w.heap.size 2 (some ⟨vb, 0, none⟩) 1 s.enc :=
    ⟨rfl, fun _ => ⟨vb, 0, rfl, (Array.getElem?_eq_some_iff.1 hvb).1, fun j u hu => by rw [cell_of_row w vb (0 + j) _ 30 (0, 0) hvb]; simpa using hu⟩⟩
  have HRD := Lib.hid hrd
  have HV := Lib.hid hvb
  have H := Lib.hid hown
  have HL := Lib.hid hl
  have HN := Lib.hid hnil
  clear hrd hvb hown hl hnil
  unfold maxLen at hcm
  cases A with
  | none =>
    obtain ⟨rfl, rfl⟩ := HN.out rfl
    go_enter Try.func18, Try.ntmps18
    go_wp2_with (at_builtin; refine wpList_append_rd _ rfl _ _ 23 rfl base 30 i0 _ 2 16 Try.underlying23 hi hz0 hz1 hz2 rfl (by decide) (.slice none 0 0) 0 _ rfl H.out w.heap.size (some ⟨vb, 0, none⟩) 1 1 s.enc rfl HRD.out (fun h => by cases h) (by simp [Smp.enc, Value.oneCell']) (by simp only [maxLen]; omega) (by omega) hb ?_; intro v1 w1 hown1 hg1 hat1)
    go_ret
    exact ⟨v1, rfl, by simpa using hown1, hg1⟩
  | some a =>
    go_enter Try.func18, Try.ntmps18
    go_wp2_with (at_builtin; refine wpList_append_rd _ rfl _ _ 23 rfl base 30 i0 _ 2 16 Try.underlying23 hi hz0 hz1 hz2 rfl (by decide) (.slice (some a) n c) n _ rfl H.out w.heap.size (some ⟨vb, 0, none⟩) 1 1 s.enc rfl HRD.out (fun h => by cases h) (by simp [Smp.enc, Value.oneCell']) (by simp only [maxLen]; omega) (by omega) hb ?_; intro v1 w1 hown1 hg1 hat1)
    all_goals
      go_ret
      exact ⟨v1, rfl, by simpa using hown1, hg1⟩
end Go.Proofs.Ytjimaanleamgjaa
