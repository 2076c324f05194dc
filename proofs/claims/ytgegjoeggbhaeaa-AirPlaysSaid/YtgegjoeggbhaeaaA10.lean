import Derived.Test.YtgegjoeggbhaeaaA9
namespace Go.Proofs.Ytgegjoeggbhaeaa
open Go.RowKit Go.Conc

theorem Air.drew {w : World} {B g h : Nat} {v : Value} {s : List Row} (a : Air w B g h v s) : Air w.drew B g h v s := by
  obtain ⟨ps, e, t⟩ := a.tab
  exact ⟨a.top, a.ch, ⟨ps, e, t.own, t.bod⟩, a.bg, a.bh, a.few, a.small, a.room⟩
theorem Turn.undrew {w w' : World} {g h : Nat} {v v' : Value} (t : Turn w.drew w' g h v v') : Turn w w' g h v v' := ⟨t.os, t.tape, t.output, t.size, t.block, t.row⟩
theorem Turn.todrew {w w' : World} {g h : Nat} {v v' : Value} (t : Turn w w' g h v v') : Turn w w'.drew g h v v' := ⟨t.os, t.tape, t.output, t.size, t.block, t.row⟩
theorem fly_len (s : List Row) : (flyOf s).length ≤ s.length := by
  unfold flyOf
  exact Nat.le_trans (List.length_filter_le _ _) (by simp)

set_option maxHeartbeats 2000000 in
theorem lose_no (B g h : Nat) (v : Value) (s : List Row) (n : Int) (w : World) (a : Air w B g h v s) (hno : ¬ ∃ k : Nat, k ∈ flyOf s ∧ (k : Int) = n) :
    Calls Try.prog 12 #[.pointer (some ⟨g, 0, none⟩), .int .i64 n] w fun e w' => e = .returned (.bool false) ∧ Air w' B g h v s ∧ Turn w w' g h v v := by
  have hmf := mkf
  have A1 := Lib.hid (a.below ((Below.refl _ _).alloc (Nat.le_refl _) (.cells #[.int .i64 n] 3)))
  have T1 : Hid (Turn w (w.alloc (.cells #[.int .i64 n] 3)) g h v v) := Lib.hid (Turn.of_below ((Below.refl _ _).alloc (Nat.le_refl _) _))
  have P1 : Hid ((w.alloc (.cells #[.int .i64 n] 3)).heap[w.heap.size]? = some (.cells #[.int .i64 n] 3 (0, 0))) := Lib.hid (heap_alloc_new _ _)
  clear a
  go_enter Try.func12, Try.ntmps12
  go_wp2_with fail
  generalize hw1 : w.alloc (.cells #[.int .i64 n] 3) = w1 at A1 T1 P1 ⊢
  have c1 : w1.cell? ⟨w.heap.size, 0, none⟩ = some (.int .i64 n) := by rw [cell_of_row w1 _ 0 _ 3 (0, 0) P1.out]; rfl
  go_region_law (first
    | (go_simp
       go_at_call 16
       refine (flying_any B g h _ s _ (by first | exact A1.out | exact A1.out.drew)).mono ?_
       rintro e w2 ⟨fv, rfl, ho, a2, t2⟩
       obtain ⟨Af, cf, rfl, r1, r2, r3⟩ := ho.form
       have T2 : Hid (Turn w1 w2 g h _ _) := Lib.hid (by first | exact t2 | exact t2.undrew)
       have A2 := Lib.hid a2
       have c2 : w2.cell? ⟨w.heap.size, 0, none⟩ = some (.int .i64 n) := by rw [cell_of_row w2 _ 0 _ 3 (0, 0) ((A1.out.beside T2.out P1.out (by decide) (by decide)).trans P1.out)]; rfl
       have RF := Lib.hid ho.rd
       clear ho a2 t2)
    | (go_simp
       go_at_call 21
       refine (contains_any Af cf (flyOf s) n _ (by exact RF.out) (by have := A1.out.room; omega) false (by simpa using hno)).mono ?_
       rintro e w3 ⟨rfl, rfl⟩))
  all_goals
    go_wp2
    go_ret
    exact ⟨rfl, A2.out, T1.out.trans T2.out⟩
/-- What look leaves where the closure only reads. -/
theorem look_turn {w w' : World} {B g h p : Nat} {v lv : Value} {s : List Row} {k : Nat} {seen kept : List Nat} (a : Air w B g h v s) (i : In1 w w' g h v (JL p k) (fun j => j = p) seen kept ((flyOf s).filter fun i : Nat => (i : Int) != k) lv) (hp : w.heap[p]? = some (.cells #[.int .i64 (k : Int)] 3 (0, 0))) :
    Turn w w' g h v v ∧ (∀ j < w.heap.size, j ≠ h → w'.heap[j]? = w.heap[j]?) ∧ (∃ m r, w'.heap[h]? = some (.chan 200 (nums ((flyOf s).filter (fun i => i != k))).toArray false m r false)) ∧ w'.heap[p]? = some (.cells #[.int .i64 (k : Int)] 3 (0, 0)) := by
  obtain ⟨F, ⟨q1, _⟩, _, _⟩ := i.J
  have hb : ∀ j < w.heap.size, j ≠ h → w'.heap[j]? = w.heap[j]? := fun j hj hn => by
    by_cases e : j = p
    · subst e; rw [q1, hp]
    · exact i.only.block j hj (fun e' => e'.elim e hn)
  refine ⟨⟨i.only.os, i.only.tape, i.only.output, i.only.size, fun j hj _ h2 _ => hb j hj h2, .inl rfl⟩, hb, ?_, q1⟩
  have e : ((flyOf s).filter fun i : Nat => (i : Int) != (k : Int)) = (flyOf s).filter (fun i => i != k) := List.filter_congr fun i _ => by
    by_cases e : i = k
    · subst e; simp
    · have : (i : Int) ≠ k := by omega
      rw [bne_iff_ne.2 this, bne_iff_ne.2 e]
  rw [← e]
  exact i.ch

theorem lose_facts {w w' : World} {B g h : Nat} {v : Value} {s : List Row} {r : Row} {k : Nat} (a : Air w B g h v s) (t : Turn w w' g h v v) (hb : ∀ j < w.heap.size, j ≠ h → w'.heap[j]? = w.heap[j]?)
    (hch : ∃ m r, w'.heap[h]? = some (.chan 200 (nums ((flyOf s).filter (fun i => i != k))).toArray false m r false)) (hk : s[k]? = some r) :
    ∃ b off c, v = .slice (some ⟨b, off, none⟩) s.length c ∧ w'.cell? ⟨g, 0, none⟩ = some v ∧ (∃ u, w'.cell? ⟨b, off + k * 3 + 2, none⟩ = some (.bool u)) ∧ w'.frozen? ⟨b, off + k * 3 + 2, none⟩ = false ∧
      Air (w'.setCell ⟨b, off + k * 3 + 2, none⟩ (.bool true)) B g h v (loseAt s k) ∧ Turn w (w'.setCell ⟨b, off + k * 3 + 2, none⟩ (.bool true)) g h v v := by
  have hks : k < s.length := (List.getElem?_eq_some_iff.1 hk).1
  obtain ⟨Av, c, rfl, _, _, hn⟩ := a.form
  have htop := (hb g a.lt a.ne).trans a.top
  obtain ⟨ps, hps, tb⟩ := a.tab
  have hl : s.length = ps.length := by rw [← hps, List.length_map]
  cases Av with
  | none => have := (hn rfl).1; omega
  | some A =>
    have tb1 := tb
    rw [hl] at tb1
    obtain ⟨b, off, e, hbs, _⟩ := tb1.own.rd.2 (by omega)
    injection e with e
    subst e
    obtain ⟨p, hp, rfl⟩ : ∃ p, ps[k]? = some p ∧ p.1 = r := by rw [← hps, List.getElem?_map] at hk; exact Option.map_eq_some_iff.1 hk
    obtain ⟨L1, L2⟩ := lose_law a rfl t hb hch hk
    have vb : (Value.slice (some ⟨b, off, none⟩) s.length c).ownBlock = some b := by simp [Value.ownBlock]
    have hbh : b ≠ h := fun e => a.vh (by rw [vb, e])
    obtain ⟨cur, hc⟩ := tb.own.type vb
    have hc' := (hb b (tb.lt b vb).2 hbh).trans hc
    obtain ⟨q1, q2, q3, _⟩ := tb1.cells k p hp
    refine ⟨b, off, c, rfl, by rw [cell_of_row w' g 0 _ 52 (0, 0) htop]; rfl, ⟨p.1.gone, ?_⟩, frozen_of_row w' b _ _ 55 hc', L1, L2⟩
    rw [cell_of_row w' b _ _ 55 (0, 0) hc', ← cell_of_row w b _ _ 55 (0, 0) hc, q3]

set_option maxHeartbeats 2000000 in
theorem lose_yes (B g h : Nat) (v : Value) (s : List Row) (k : Nat) (r : Row) (w : World) (a : Air w B g h v s) (hk : s[k]? = some r) (hg : r.gone = false) :
    Calls Try.prog 12 #[.pointer (some ⟨g, 0, none⟩), .int .i64 (k : Int)] w fun e w' => e = .returned (.bool true) ∧ Air w' B g h v (loseAt s k) ∧ Turn w w' g h v v := by
  have hmf := mkf
  have A1 := Lib.hid (a.below ((Below.refl _ _).alloc (Nat.le_refl _) (.cells #[.int .i64 (k : Int)] 3)))
  have T1 : Hid (Turn w (w.alloc (.cells #[.int .i64 (k : Int)] 3)) g h v v) := Lib.hid (Turn.of_below ((Below.refl _ _).alloc (Nat.le_refl _) _))
  have P1 : Hid ((w.alloc (.cells #[.int .i64 (k : Int)] 3)).heap[w.heap.size]? = some (.cells #[.int .i64 (k : Int)] 3 (0, 0))) := Lib.hid (heap_alloc_new _ _)
  have HM : Hid (∃ j : Nat, j ∈ flyOf s ∧ (j : Int) = k) := Lib.hid ⟨k, (mem_flyOf s k).2 ⟨r, hk, hg⟩, rfl⟩
  have hgl := a.lt
  have hhl := a.lth
  have hks : k < s.length := (List.getElem?_eq_some_iff.1 hk).1
  have HK := Lib.hid hk
  obtain ⟨Av, cv, rfl, v1, v2, v3⟩ := a.form
  clear a hk
  go_enter Try.func12, Try.ntmps12
  go_wp2_with fail
  generalize hw1 : w.alloc (.cells #[.int .i64 (k : Int)] 3) = w1 at A1 T1 P1 ⊢
  have c1 : w1.cell? ⟨w.heap.size, 0, none⟩ = some (.int .i64 (k : Int)) := by rw [cell_of_row w1 _ 0 _ 3 (0, 0) P1.out]; rfl
  go_region_law (first
    | (go_simp
       go_at_call 16
       refine (flying_any B g h _ s _ (by first | exact A1.out | exact A1.out.drew)).mono ?_
       rintro e w2 ⟨fv, rfl, ho, a2, t2⟩
       obtain ⟨Af, cf, rfl, r1, r2, r3⟩ := ho.form
       have T2 : Hid (Turn w1 w2 g h _ _) := Lib.hid (by first | exact t2 | exact t2.undrew)
       have A2 := Lib.hid a2
       have c2 : w2.cell? ⟨w.heap.size, 0, none⟩ = some (.int .i64 (k : Int)) := by rw [cell_of_row w2 _ 0 _ 3 (0, 0) ((A1.out.beside T2.out P1.out (by decide) (by decide)).trans P1.out)]; rfl
       have RF := Lib.hid ho.rd
       clear ho a2 t2)
    | (go_simp
       go_at_call 21
       refine (contains_any Af cf (flyOf s) k _ (by exact RF.out) (by have := A1.out.room; omega) true (by simpa using HM.out)).mono ?_
       rintro e w3 ⟨rfl, rfl⟩))
  all_goals
    go_wp2_with fail
    refine (look_any (asks_lose w.heap.size k) (.inl rfl) g h _ (flyOf s) (fun j => j = w.heap.size) _ A2.out.top A2.out.ch A2.out.room ⟨(A1.out.beside T2.out P1.out (by decide) (by decide)).trans P1.out, fun _ => Iff.rfl⟩ (by omega) (by omega) A2.out.ne).mono ?_
    rintro e w4 ⟨rfl, lv, i⟩
    have t4 := look_turn A2.out i ((A1.out.beside T2.out P1.out (by decide) (by decide)).trans P1.out)
    obtain ⟨b, off, cc, e1, d0, ⟨u, d1⟩, f1, L1, L2⟩ := lose_facts A2.out t4.1 t4.2.1 t4.2.2.1 HK.out
    injection e1 with eA _ ec
    subst eA ec
    have d2 : w4.cell? ⟨w.heap.size, 0, none⟩ = some (.int .i64 (k : Int)) := by rw [cell_of_row w4 _ 0 _ 3 (0, 0) t4.2.2.2]; rfl
    have L := Lib.hid (And.intro L1 L2)
    clear t4 i L1 L2
    go_wp2_with fail
    go_region
    all_goals
      go_wp2
      go_ret
      exact ⟨rfl, L.out.1.drew, ((T1.out.trans T2.out).trans L.out.2).todrew⟩
end Go.Proofs.Ytgegjoeggbhaeaa
