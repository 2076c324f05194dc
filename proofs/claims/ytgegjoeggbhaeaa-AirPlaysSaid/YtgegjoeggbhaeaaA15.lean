import Derived.Test.YtgegjoeggbhaeaaA14
namespace Go.Proofs.Ytgegjoeggbhaeaa
open Go.RowKit Go.Conc

section
variable {w w' : World} {B b g h n : Nat} {v lv : Value} {s : List Row} {xs : List Value}
theorem Own.miss (ho : Own w b 3 1 lv n xs) {j : Nat} {x : Obj} (hj : w.heap[j]? = some x) (hx : ∀ cur, x ≠ .cells cur 3 (0, 0)) : some j ≠ lv.ownBlock := by
  intro e
  obtain ⟨cur, hc⟩ := ho.type e.symm
  rw [hc] at hj
  injection hj with hj
  exact hx cur hj.symm
/-- A slice of ints grows: the air stands. -/
theorem Air.grown (a : Air w B g h v s) (ho : Own w b 3 1 lv n xs) (hg : w.grownBy w' lv.ownBlock) : Air w' B g h v s := by
  have keep : ∀ {j : Nat} {x : Obj}, w.heap[j]? = some x → (∀ cur, x ≠ .cells cur 3 (0, 0)) → w'.heap[j]? = w.heap[j]? := fun hj hx => hg.block _ (Array.getElem?_eq_some_iff.1 hj).1 (ho.miss hj hx)
  obtain ⟨ps, e, t⟩ := a.tab
  obtain ⟨m, r, c⟩ := a.ch
  refine ⟨(keep a.top (fun cur h => by cases h)).trans a.top, ⟨m, r, (keep c (fun cur h => by cases h)).trans c⟩, ⟨ps, e, t.keep (fun j hj => ?_) (fun j cur h5 => keep h5 (fun cur h => by cases h))⟩, a.bg, a.bh, a.few, a.small, a.room⟩
  obtain ⟨cur, hc⟩ := t.own.type hj
  exact keep hc (fun cur h => by cases h)
theorem Way.grown {a c : World} (y : Way w a g h v s) (ho : Own a w.heap.size 3 1 lv n xs) (hg : a.grownBy c lv.ownBlock) : Way w c g h v s :=
  ⟨y.air.grown ho hg, y.below.grown hg y.below.size fun k hk => (ho.block k hk).1⟩
theorem Own.nums_cell {A : Option Addr} {c m k : Nat} (ho : Own w b 3 1 (.slice A m c) m (nums (List.range m))) (hk : k < m) : ∃ bb off, A = some ⟨bb, off, none⟩ ∧ w.cell? ⟨bb, off + k, none⟩ = some (.int .i64 (k : Int)) := by
  obtain ⟨bb, off, e, _, hc⟩ := ho.rd.2 (by omega)
  exact ⟨bb, off, e, hc k _ (by simp [nums, hk])⟩
theorem Own.one_int (w : World) (x : Int) (t : Nat) (ht : t = 3) : Own (w.alloc (.cells #[.int .i64 x] t)) w.heap.size 3 1 (.slice (some ⟨w.heap.size, 0, none⟩) 1 1) 1 [.int .i64 x] := by
  subst ht
  exact ⟨by simp, .inr ⟨w.heap.size, 0, 1, #[.int .i64 x], rfl, Nat.le_refl _, heap_alloc_new w _, Nat.le_refl _, by simp [maxLen], by simp, by simp⟩⟩
end

/-- n datagrams of AirOnce; the first i are gone. -/
def zs (n i : Nat) : List Row := (List.range n).map fun (j : Nat) => ⟨1, [122], decide (j < i)⟩
theorem zs_len (n i : Nat) : (zs n i).length = n := by simp [zs]
theorem zs_get {n i j : Nat} (h : j < n) : (zs n i)[j]? = some ⟨1, [122], decide (j < i)⟩ := by simp [zs, h]
theorem zs_one : zs 1 0 = [⟨1, [122], false⟩] := by simp [zs]
theorem zs_succ (n : Nat) : zs (n + 1) 0 = zs n 0 ++ [⟨1, [122], false⟩] := by simp [zs, List.range_succ]
theorem zs_lose {n i : Nat} (h : i < n) : loseAt (zs n i) i = zs n (i + 1) := by
  apply List.ext_getElem?
  intro j
  unfold loseAt
  rw [List.getElem?_modify]
  rcases Nat.lt_or_ge j n with hj | hj
  · rw [zs_get hj, zs_get hj]
    by_cases e : i = j
    · subst e; simp
    · have : (decide (j < i)) = decide (j < i + 1) := by
        by_cases h1 : j < i
        · simp [h1]; omega
        · have h2 : ¬ j < i + 1 := by omega
          simp [h1, h2]
      simp [e, this]
  · rw [List.getElem?_eq_none (by rw [zs_len]; exact hj), List.getElem?_eq_none (by rw [zs_len]; exact hj)]; simp
theorem zs_mem {n i x : Nat} : x ∈ flyOf (zs n i) ↔ x < n ∧ i ≤ x := by
  rw [mem_flyOf]
  constructor
  · rintro ⟨r, hr, hg⟩
    have hx : x < n := by have := (List.getElem?_eq_some_iff.1 hr).1; rwa [zs_len] at this
    rw [zs_get hx] at hr
    injection hr with hr
    subst hr
    exact ⟨hx, by simpa using hg⟩
  · rintro ⟨h1, h2⟩
    exact ⟨_, zs_get h1, by simp; omega⟩
theorem zs_flen (n i : Nat) : (flyOf (zs n i)).length ≤ n := by have := fly_len (zs n i); rwa [zs_len] at this
theorem zs_none (n : Nat) : (flyOf (zs n n)).length = 0 := by
  rw [List.length_eq_zero_iff, List.eq_nil_iff_forall_not_mem]
  intro x hx
  have := zs_mem.1 hx
  omega

set_option maxHeartbeats 8000000 in
set_option maxRecDepth 100000 in
/-- AirOnce's walk. -/
theorem once_row (a0 a1 : Int) (w : World) (_w0 : (Lit.int .i64 a0).wf = true) (_w1 : (Lit.int .i64 a1).wf = true) : Calls Try.prog 5 #[.int .i64 a0, .int .i64 a1] w fun e w' => e = .returned (.bool true) ∧ Below w.heap.size w w' := by
  obtain ⟨k, hk, hkl⟩ := rem_nat a0 9 (by omega)
  have u0 := u64_nn a0
  have u1 := u64_nn a1
  have i1 : IntKind.i64.wrap (k : Int) = (k : Int) := i64_id (by omega) (by omega)
  obtain ⟨i0, hi, hz0, hz1, hz2⟩ := info_parts int_info
  have I0 := Lib.hid (And.intro hi (And.intro hz0 (And.intro hz1 hz2)))
  clear hi hz0 hz1 hz2
  have hcv := fun W => Lib.run_convert_bytes_const (P := Try.prog) W 30 5 #[.int .u8 122] 1 1 Try.underlying30 u8_under
  go_enter Try.func5, Try.ntmps5
  go_wp2_with fail
  refine (new_air w).mono ?_
  rintro e w1 ⟨g, h, rfl, a1, b1⟩
  have Y1 := Lib.hid (Way.mk a1 b1)
  clear a1 b1
  go_wp2_with fail
  have Y2 := Lib.hid (Y1.out.alloc (.cells #[.int .u8 122] 5 (1, 2)))
  refine (post_ok w.heap.size g h _ [] 1 _ 1 1 [122] _ Y2.out.air Y2.out.size (by decide) (by decide) (rd_marked w1 #[.int .u8 122] 5 (1, 2) 1 rfl) (fun h => by cases h) (by decide) (by decide) (by decide)).mono ?_
  rintro e w3 ⟨v3, rfl, a3, t3⟩
  have Y3 : Hid (Way w w3 g h v3 (zs 1 0)) := Lib.hid (by rw [zs_one]; exact Y2.out.turn a3 t3)
  clear a3 t3 Y1 Y2
  clear hcv
  go_wp2_with fail
  have L0 : Hid (∃ v, Way w (w3.alloc (.cells #[.int .i64 0] 3)) g h v (zs (0 + 1) 0) ∧ Own (w3.alloc (.cells #[.int .i64 0] 3)) w.heap.size 3 1 (.slice (some ⟨w3.heap.size, 0, none⟩) (0 + 1) 1) (0 + 1) (nums (List.range (0 + 1)))) :=
    Lib.hid ⟨v3, Y3.out.alloc _, (Own.one_int w3 0 3 rfl).base_ fun j hj => by simp [Value.ownBlock] at hj; have := Y3.out.size; omega⟩
  clear Y3
  go_loopg [9, 10] 9 (fun m x9 x10 wr => ∃ (i : Nat) (A : Option Addr) (c : Nat), i ≤ k ∧ k - i ≤ m ∧ x9 = .slice A (i + 1) c ∧ x10 = .int .i64 i ∧ Hid (∃ v, Way w wr g h v (zs (i + 1) 0) ∧ Own wr w.heap.size 3 1 (.slice A (i + 1) c) (i + 1) (nums (List.range (i + 1)))))
  case atStart => exact ⟨0, _, 1, by omega, by omega, rfl, rfl, L0⟩
  case round =>
    clear L0
    obtain ⟨i, A, c, hik, hm, rfl, rfl, HF⟩ := hrel
    obtain ⟨v, hy, ho⟩ := HF.out
    have Y := Lib.hid hy
    have O := Lib.hid ho
    clear HF hy ho
    have wi : IntKind.i64.wrap ((i : Int) + 1) = (i : Int) + 1 := i64_id (by omega) (by omega)
    by_cases hlt : i < k
    · have hlt' : (i : Int) < (k : Int) := by omega
      clear u1 i1
      go_wp2_with fail
      refine (double_ok w.heap.size g h v (zs (i + 1) 0) 0 _ wr Y.out.air Y.out.size (zs_get (by omega)) rfl (by decide) (by rw [zs_len]; omega) (by have := zs_flen (i + 1) 0; omega)).mono ?_
      rw [zs_len]
      rintro e w4 ⟨v4, rfl, a4, t4⟩
      have Y4 : Hid (Way w w4 g h v4 (zs (i + 1 + 1) 0)) := Lib.hid (by rw [zs_succ (i + 1)]; exact Y.out.turn a4 t4)
      have O4 := Lib.hid (Y.out.air.other t4 O.out (by decide) (by decide))
      clear a4 t4 Y O
      go_wp2_with (at_builtin; refine wpList_append_rd _ rfl (.tmp 48) (.tmp 50) 46 rfl w.heap.size 3 i0 _ 1 8 Try.underlying46 I0.out.1 I0.out.2.1 I0.out.2.2.1 I0.out.2.2.2 rfl (by decide) (.slice A (i + 1) c) (i + 1) (nums (List.range (i + 1))) rfl (O4.out.alloc _) _ _ 1 1 [.int .i64 ((i + 1 : Nat) : Int)] rfl (Rd.newE rfl rfl rfl rfl) (fun h => by cases h) (by simp; rfl) (by simp only [maxLen]; omega) (by omega) (by have := Y4.out.size; simp; omega) ?_; intro v5 w5 hown5 hg5 hat5; obtain ⟨A5, c5, rfl, r1, r2, r3⟩ := hown5.form; have Y5 := Lib.hid ((Y4.out.alloc _).grown (O4.out.alloc _) hg5); have O5 := Lib.hid hown5; clear hown5 hg5 hat5 r1 r2 r3)
      go_roundg (k - (i + 1))
      case measure => omega
      case rel => exact ⟨i + 1, A5, c5, by omega, by omega, rfl, by go_num, v4, Y5.out, by rw [List.range_succ (n := i + 1)]; simpa [nums] using O5.out⟩
    · obtain rfl : i = k := by omega
      clear hlt hik hm wi
      obtain ⟨bb, off, rfl, _⟩ := O.out.nums_cell (k := 0) (by omega)
      obtain ⟨m, hm, hml⟩ := rem_nat a1 ((i : Int) + 2) (by omega)
      have wk2 : IntKind.i64.wrap ((i : Int) + 2) = (i : Int) + 2 := i64_id (by omega) (by omega)
      have wm : IntKind.i64.wrap (m : Int) = (m : Int) := i64_id (by omega) (by omega)
      go_wp2_with fail
      have L2 : Hid (Way w wr g h v (zs (i + 1) 0) ∧ Own wr w.heap.size 3 1 (.slice (some ⟨bb, off, none⟩) (i + 1) c) (i + 1) (nums (List.range (i + 1)))) := Lib.hid ⟨Y.out, O.out⟩
      clear Y O hm wm wk2
      go_loopg [14, 15] 9 (fun gh x14 x15 wr => ∃ j : Nat, j ≤ i + 1 ∧ i + 1 - j ≤ gh ∧ x14 = .int .i64 ((j - m : Nat) : Int) ∧ x15 = .int .i64 j ∧ Hid (Way w wr g h v (zs (i + 1) j) ∧ Own wr w.heap.size 3 1 (.slice (some ⟨bb, off, none⟩) (i + 1) c) (i + 1) (nums (List.range (i + 1)))))
      case atStart => exact ⟨0, by omega, by omega, by simp, rfl, L2⟩
      case round =>
        clear L2
        obtain ⟨j, hj, hgm, rfl, rfl, HF⟩ := hrel
        obtain ⟨hy, ho⟩ := HF.out
        have Y := Lib.hid hy
        have O := Lib.hid ho
        clear HF hy ho
        have wj : IntKind.i64.wrap ((j : Int) + 1) = (j : Int) + 1 := i64_id (by omega) (by omega)
        by_cases hlt : j < i + 1
        · obtain ⟨bb', off', e, c0⟩ := O.out.nums_cell hlt
          injection e with e
          injection e with e1 e2 _
          subst e1 e2
          have hlt' : (j : Int) < (i : Int) + 1 := by omega
          by_cases hjm : j < m
          · have hjm' : (j : Int) < (m : Int) := by omega
            go_wp2_with fail
            refine (lose_yes w.heap.size g h v (zs (i + 1) j) j _ wr Y.out.air (zs_get hlt) (by simp)).mono ?_
            rintro e w4 ⟨rfl, a4, t4⟩
            have Y4 : Hid (Way w w4 g h v (zs (i + 1) (j + 1))) := Lib.hid (by rw [zs_lose hlt] at a4; exact Y.out.turn a4 t4)
            have O4 := Lib.hid (Y.out.air.other t4 O.out (by decide) (by decide))
            obtain ⟨bb', off', e, d0⟩ := O4.out.nums_cell hlt
            injection e with e
            injection e with e1 e2 _
            subst e1 e2
            clear a4 t4 Y O c0
            go_wp2_with fail
            refine (lose_no w.heap.size g h v (zs (i + 1) (j + 1)) j w4 Y4.out.air (by rintro ⟨x, hx, he⟩; have := zs_mem.1 hx; omega)).mono ?_
            rintro e w5 ⟨rfl, a5, t5⟩
            have Y5 := Lib.hid (Y4.out.turn a5 t5)
            have O5 := Lib.hid (Y4.out.air.other t5 O4.out (by decide) (by decide))
            clear a5 t5 Y4 O4 d0
            go_wp2
            go_roundg (i + 1 - (j + 1))
            case measure => omega
            case rel => exact ⟨j + 1, by omega, by omega, by rw [show j + 1 - m = j - m by omega], by go_num, Y5.out, O5.out⟩
          · have hjm' : ¬ (j : Int) < (m : Int) := by omega
            obtain ⟨q, hq⟩ : ∃ q, q = j - m := ⟨_, rfl⟩
            have hq1 : q ≤ 9 := by omega
            have wq : IntKind.i64.wrap ((q : Int) + 1) = (q : Int) + 1 := i64_id (by omega) (by omega)
            rw [← hq]
            have HQ := Lib.hid hq
            clear hq
            go_wp2_with fail
            refine (come_yes w.heap.size g h v (zs (i + 1) j) j _ wr Y.out.air Y.out.size (zs_get hlt) (by simp)).mono ?_
            rintro e w4 ⟨bv, rfl, o4, a4, t4⟩
            obtain ⟨Ab, cb, rfl, _, _, _⟩ := o4.form
            have Y4 : Hid (Way w w4 g h v (zs (i + 1) (j + 1))) := Lib.hid (by rw [zs_lose hlt] at a4; exact Y.out.turn a4 t4)
            have O4 := Lib.hid (Y.out.air.other t4 O.out (by decide) (by decide))
            have hcs : (convert 30 9 (.slice Ab 1 cb)).run Try.prog w4 = .ok (.string { data := #[122] }) w4 := conv_own (body := [122]) o4
            clear a4 t4 Y O c0 o4
            go_wp2
            go_roundg (i + 1 - (j + 1))
            case measure => omega
            case rel => exact ⟨j + 1, by omega, by omega, by rw [show j + 1 - m = q + 1 by have := HQ.out; omega]; go_num, by go_num, Y4.out, O4.out⟩
        · obtain rfl : j = i + 1 := by omega
          obtain ⟨q, hq⟩ : ∃ q, q = i + 1 - m := ⟨_, rfl⟩
          rw [← hq]
          have e5 : ((q : Int) == (i : Int) + 1 - (m : Int)) = true := by simp; omega
          have s1 : IntKind.i64.wrap ((i : Int) + 1 - (m : Int)) = (i : Int) + 1 - (m : Int) := i64_id (by omega) (by omega)
          clear hq hlt hgm O hj wj
          go_wp2_with fail
          refine (told_any _).mono ?_
          rintro e w5 ⟨rfl, b5⟩
          have Y5 := Lib.hid (Y.out.on b5)
          clear b5 Y
          go_wp2_with fail
          refine (flying_any w.heap.size g h v _ w5 Y5.out.air).mono ?_
          rw [zs_none]
          rintro e w6 ⟨fv, rfl, o6, a6, t6⟩
          obtain ⟨Af, cf, rfl, _, _, _⟩ := o6.form
          have Y6 := Lib.hid (Y5.out.turn a6 t6)
          clear o6 a6 t6 Y5
          go_wp2_with fail
          refine (all_any w.heap.size g h v _ w6 Y6.out.air).mono ?_
          rintro e w7 ⟨lv, qs, rfl, hq, tq, b7⟩
          obtain ⟨Aq, cq, rfl, _, _, _⟩ := tq.own.form
          have hql : qs.length = i + 1 := by have := congrArg List.length hq; rw [zs_len] at this; simpa using this
          rw [hql]
          have Y7 := Lib.hid (Y6.out.on b7)
          clear tq b7 Y6 hq hql
          go_wp2
          go_ret
          exact ⟨rfl, Y7.out.below⟩
end Go.Proofs.Ytgegjoeggbhaeaa
