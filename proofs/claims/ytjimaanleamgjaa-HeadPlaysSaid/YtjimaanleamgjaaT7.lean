import Derived.Test.YtjimaanleamgjaaT6
namespace Go.Proofs.Ytjimaanleamgjaa
open Go.RowKit

theorem bcell {W w1 : World} (hb : Below W.heap.size W w1) : (∀ b o, b < W.heap.size → w1.cell? ⟨b, o, none⟩ = W.cell? ⟨b, o, none⟩) ∧ (∀ b o, b < W.heap.size → w1.frozen? ⟨b, o, none⟩ = W.frozen? ⟨b, o, none⟩) :=
  ⟨fun b o h => hb.cell (p := ⟨b, o, none⟩) h, fun b o h => hb.frozen (p := ⟨b, o, none⟩) h⟩

theorem out_two {w : World} {b : Nat} {x0 x1 : Value} (v0 v1 : Value) (h0 : w.cell? ⟨b, 0, none⟩ = some x0) (h1 : w.cell? ⟨b, 1, none⟩ = some x1) :
    ((w.setCell ⟨b, 0, none⟩ v0).setCell ⟨b, 1, none⟩ v1).cell? ⟨b, 0, none⟩ = some v0 ∧ ((w.setCell ⟨b, 0, none⟩ v0).setCell ⟨b, 1, none⟩ v1).cell? ⟨b, 1, none⟩ = some v1 := by
  have ne : ∀ i j : Nat, i ≠ j → (⟨b, i, none⟩ : Addr) ≠ ⟨b, j, none⟩ := fun i j h e => h (by injection e)
  exact ⟨(World.cell?_setCell_other _ _ _ _ (ne 1 0 (by omega))).trans (World.cell?_setCell_same _ _ _ h0), World.cell?_setCell_same _ _ _ ((World.cell?_setCell_other _ _ _ _ (ne 0 1 (by omega))).trans h1)⟩

theorem insert_at {base : Nat} (i : Nat) {iz : Int} (hiz : iz = i) (v : Value) (n : Nat) (xs : List Smp) (s : Smp) (vb : Nat) (w : World) (hl : xs.length = n) (hi : i ≤ n) (hown : Own w base 30 2 v n (xs.flatMap Smp.enc)) (hb : base ≤ w.heap.size)
    (hn : n ≤ 64) (hvb : w.heap[vb]? = some (.cells s.enc.toArray 30 (0, 0))) (hne : v.ownBlock ≠ some vb) :
    Calls Try.prog 18 #[v, .int .i64 iz, .slice (some ⟨vb, 0, none⟩) 1 1] w (Placed w base v (n + 1) (xs.take i ++ s :: xs.drop i)) := by
  subst hiz
  exact insert_any base v n i xs s vb w hl hi hown hb hn hvb hne

/-- Put's three variables: the head, the sample, the head that goes back. -/
structure PutB (b : Nat) (z : Int) (sl : Value) (s : Smp) (w : World) : Prop where
  c0 : w.cell? ⟨b, 0, none⟩ = some (.int .i64 z)
  c1 : w.cell? ⟨b, 1, none⟩ = some sl
  d0 : w.cell? ⟨b + 1, 0, none⟩ = some (.int .i64 s.t)
  d1 : w.cell? ⟨b + 1, 1, none⟩ = some (.int .i64 s.v)
  r0 : w.cell? ⟨b + 1 + 1, 0, none⟩ = some (.int .i64 0)
  r1 : w.cell? ⟨b + 1 + 1, 1, none⟩ = some (.slice none 0 0)
  f1 : w.frozen? ⟨b, 1, none⟩ = false
  g0 : w.frozen? ⟨b + 1 + 1, 0, none⟩ = false
  g1 : w.frozen? ⟨b + 1 + 1, 1, none⟩ = false
theorem PutB.lt {b : Nat} {z : Int} {sl : Value} {s : Smp} {w : World} (h : PutB b z sl s w) : b + 1 + 1 < w.heap.size := World.block_lt_of_cell? w _ h.r0
theorem PutB.keep {b : Nat} {z : Int} {sl : Value} {s : Smp} {w w' : World} (h : PutB b z sl s w) (hb : Below w.heap.size w w') : PutB b z sl s w' := by
  have l := h.lt
  exact ⟨(hb.cell (by show b < _; omega)).trans h.c0, (hb.cell (by show b < _; omega)).trans h.c1, (hb.cell (by show b + 1 < _; omega)).trans h.d0, (hb.cell (by show b + 1 < _; omega)).trans h.d1, (hb.cell l).trans h.r0, (hb.cell l).trans h.r1,
    (hb.frozen (by show b < _; omega)).trans h.f1, (hb.frozen l).trans h.g0, (hb.frozen l).trans h.g1⟩

/-- Behind the store of the new slice. -/
structure Put8 (w : World) (b : Nat) (z : Int) (A : Option Addr) (n c : Nat) (ys : List Smp) (w8 : World) : Prop where
  c0 : w8.cell? ⟨b, 0, none⟩ = some (.int .i64 z)
  c1 : w8.cell? ⟨b, 1, none⟩ = some (.slice A n c)
  r0 : w8.cell? ⟨b + 1 + 1, 0, none⟩ = some (.int .i64 0)
  r1 : w8.cell? ⟨b + 1 + 1, 1, none⟩ = some (.slice none 0 0)
  g0 : w8.frozen? ⟨b + 1 + 1, 0, none⟩ = false
  g1 : w8.frozen? ⟨b + 1 + 1, 1, none⟩ = false
  bel : Below b w w8
  own : Own w8 (b + 3) 30 2 (.slice A n c) n (ys.flatMap Smp.enc)
  len : ys.length = n
  fm : n ≤ c ∧ c ≤ maxLen ∧ (A = none → n = 0 ∧ c = 0)

theorem put8 {w wr w7 : World} {base : Nat} {z : Int} {sl : Value} {s : Smp} {A : Option Addr} {n c : Nat} {ys : List Smp} (PB : PutB w.heap.size z sl s wr) (b5 : Below w.heap.size w wr) (B7 : Below wr.heap.size wr w7)
    (own : Own w7 base 30 2 (.slice A n c) n (ys.flatMap Smp.enc)) (hb : wr.heap.size ≤ base) (hl : ys.length = n) (hf : n ≤ c ∧ c ≤ maxLen ∧ (A = none → n = 0 ∧ c = 0)) :
    Put8 w w.heap.size z A n c ys (w7.setCell ⟨w.heap.size, 1, none⟩ (.slice A n c)) := by
  have P7 := PB.keep B7
  have lt := PB.lt
  have far : ∀ i j : Nat, (⟨w.heap.size, i, none⟩ : Addr) ≠ ⟨w.heap.size + 1 + 1, j, none⟩ := fun i j e => by injection e with e; omega
  refine ⟨(World.cell?_setCell_other _ _ _ _ (by intro e; injection e with _ e; cases e)).trans P7.c0, World.cell?_setCell_same _ _ _ P7.c1, (World.cell?_setCell_other _ _ _ _ (far 1 0)).trans P7.r0, (World.cell?_setCell_other _ _ _ _ (far 1 1)).trans P7.r1,
    by rw [World.frozen?_setCell]; exact P7.g0, by rw [World.frozen?_setCell]; exact P7.g1, ?_, ?_, hl, hf⟩
  · exact (b5.trans (B7.mono b5.size)).setCell (Nat.le_refl _) _
  · exact (own.keep fun g hg => heap_setCell_other _ _ _ _ (fun e => by have := (own.block g hg).1; simp at e; omega)).base_ (fun g hg => by have := (own.block g hg).1; omega)

/-- The end of Put: the result's variable takes the head. -/
theorem Put8.done {w w8 : World} {z : Int} {A : Option Addr} {n c : Nat} {ys : List Smp} (h : Put8 w w.heap.size z A n c ys w8) (u v : Value) :
    GotS ((w8.setCell ⟨w.heap.size + 1 + 1, 0, none⟩ u).setCell ⟨w.heap.size + 1 + 1, 1, none⟩ v) n ys A c ∧ Below w.heap.size w ((w8.setCell ⟨w.heap.size + 1 + 1, 0, none⟩ u).setCell ⟨w.heap.size + 1 + 1, 1, none⟩ v) := by
  refine ⟨?_, (h.bel.setCell (by show _ ≤ w.heap.size + 1 + 1; omega) _).setCell (by show _ ≤ w.heap.size + 1 + 1; omega) _⟩
  have own9 : Own ((w8.setCell ⟨w.heap.size + 1 + 1, 0, none⟩ u).setCell ⟨w.heap.size + 1 + 1, 1, none⟩ v) (w.heap.size + 3) 30 2 (.slice A n c) n (ys.flatMap Smp.enc) :=
    h.own.keep fun g hg => by
      have := (h.own.block g hg).1
      rw [heap_setCell_other _ _ _ _ (fun e => by simp at e; omega), heap_setCell_other _ _ _ _ (fun e => by simp at e; omega)]
  exact GotS.of_own h.len own9 h.fm

/-- A head handed back, and a code. -/
def PutS (w : World) (z : Int) (ys : List Smp) (code : Int) (e : Ending) (w' : World) : Prop :=
  ∃ A' c', e = .returned (.tuple #[.agg #[.int .i64 z, .slice A' ys.length c'], .int .i64 code]) ∧ GotS w' ys.length ys A' c' ∧ Below w.heap.size w w'

set_option maxHeartbeats 2000000 in
theorem put_late (z : Int) (A : Option Addr) (n c : Nat) (xs : List Smp) (s : Smp) (w : World) (h : GotS w n xs A c) (ok : Ok z xs) (s0 : 0 ≤ s.t) (s1 : s.t < 1099511627776) (hlt : s.t < z) :
    Calls Try.prog 8 #[.agg #[.int .i64 z, .slice A n c], .agg #[.int .i64 s.t, .int .i64 s.v]] w (PutS w z (putL z xs s) (putC z xs s)) := by
  have m1 : n ≤ 64 := by rw [← h.rd.1]; exact ok.len
  have z0 := ok.z0
  have z1 := ok.z1
  have L := Lib.hid h.rd.1
  have H := Lib.hid h
  have OK := Lib.hid ok
  clear h ok
  have E1 : Hid (putL z xs s = xs) := Lib.hid (by unfold putL; rw [if_pos hlt])
  have E2 : Hid (putC z xs s = 6) := Lib.hid (by unfold putC; rw [if_pos hlt])
  go_enter Try.func8, Try.ntmps8
  go_wp2_with fail
  go_step3
  go_wp2_with (go_at_call 11; with_reducible refine (may_any _ _ _ _ xs _ (H.out.rd.after ((((Below.refl _ _).alloc (Nat.le_refl _) _).alloc (by simp) _).alloc (by simp; omega) _)) OK.out).mono ?_; rintro e w5 ⟨rfl, hb⟩; have b5 : Below w.heap.size w w5 := below_after ((((Below.refl _ _).alloc (Nat.le_refl _) _).alloc (by simp) _).alloc (by simp; omega) _) hb (by simp; omega); have PB : Hid (PutB w.heap.size z (.slice A n c) s w5) := Lib.hid (PutB.keep ⟨by simp [go_sem], by simp [go_sem], by simp [go_sem], by simp [go_sem], by simp [go_sem], by simp [go_sem], by simp [go_sem], by simp [go_sem], by simp [go_sem]⟩ hb); have hz : w.heap.size + 3 ≤ w5.heap.size := (by have := hb.size; simp at this; omega); clear hb; have hc0 := PB.out.c0; have hc1 := PB.out.c1; have hd0 := PB.out.d0; have hd1 := PB.out.d1; have hf1 := PB.out.f1; have hr0 := PB.out.r0; have hr1 := PB.out.r1; have hg0 := PB.out.g0; have hg1 := PB.out.g1; have hsz : w.heap.size ≤ w5.heap.size := (by omega); have hz1 : w.heap.size < w5.heap.size := (by omega); have hz2 : w.heap.size + 1 < w5.heap.size := (by omega))
  try rw [Exit.noGoto_ret]
  obtain ⟨k0, k1⟩ := out_two (.int .i64 z) (.slice A n c) hr0 hr1
  have b6 : Below w.heap.size w ((w5.setCell ⟨w.heap.size + 1 + 1, 0, none⟩ (.int .i64 z)).setCell ⟨w.heap.size + 1 + 1, 1, none⟩ (.slice A n c)) := (b5.setCell (by show _ ≤ w.heap.size + 1 + 1; omega) _).setCell (by show _ ≤ w.heap.size + 1 + 1; omega) _
  generalize ((w5.setCell ⟨w.heap.size + 1 + 1, 0, none⟩ (.int .i64 z)).setCell ⟨w.heap.size + 1 + 1, 1, none⟩ (.slice A n c)) = w6 at k0 k1 b6 ⊢
  refine bodyPost_ret (v := .tuple #[.agg #[.int .i64 z, .slice A n c], .int .i64 6]) (by simp [results, Try.results8, go_sem, k0, k1]) rfl ?_
  rw [E1.out, E2.out]
  exact ⟨A, c, by rw [L.out], by rw [L.out]; exact H.out.after b6, b6⟩


set_option maxHeartbeats 4000000 in
set_option maxRecDepth 100000 in
theorem put_full (z : Int) (A : Option Addr) (c : Nat) (xs : List Smp) (s : Smp) (w : World) (h : GotS w 64 xs A c) (ok : Ok z xs) (s0 : 0 ≤ s.t) (s1 : s.t < 1099511627776) (hge : z ≤ s.t) :
    Calls Try.prog 8 #[.agg #[.int .i64 z, .slice A 64 c], .agg #[.int .i64 s.t, .int .i64 s.v]] w (PutS w z (putL z xs s) (putC z xs s)) := by
  obtain ⟨n, hn⟩ : ∃ n : Nat, n = 64 := ⟨_, rfl⟩
  rw [← hn] at h ⊢
  have m1 : n ≤ 64 := by rw [← h.rd.1]; exact ok.len
  have z0 := ok.z0
  have z1 := ok.z1
  have L := Lib.hid h.rd.1
  have H := Lib.hid h
  have OK := Lib.hid ok
  clear h ok
  have hn64 := Lib.hid hn
  have m2 : ((n : Int) == 64) = true := by simp; omega
  have m3 : 64 ≤ n := by omega
  clear hn
  have hlt : ¬ s.t < z := by omega
  go_enter Try.func8, Try.ntmps8
  go_wp2_with fail
  go_step3
  go_wp2_with (go_at_call 11; with_reducible refine (may_any _ _ _ _ xs _ (H.out.rd.after ((((Below.refl _ _).alloc (Nat.le_refl _) _).alloc (by simp) _).alloc (by simp; omega) _)) OK.out).mono ?_; rintro e w5 ⟨rfl, hb⟩; have b5 : Below w.heap.size w w5 := below_after ((((Below.refl _ _).alloc (Nat.le_refl _) _).alloc (by simp) _).alloc (by simp; omega) _) hb (by simp; omega); have PB : Hid (PutB w.heap.size z (.slice A n c) s w5) := Lib.hid (PutB.keep ⟨by simp [go_sem], by simp [go_sem], by simp [go_sem], by simp [go_sem], by simp [go_sem], by simp [go_sem], by simp [go_sem], by simp [go_sem], by simp [go_sem]⟩ hb); have hz : w.heap.size + 3 ≤ w5.heap.size := (by have := hb.size; simp at this; omega); clear hb; have hc0 := PB.out.c0; have hc1 := PB.out.c1; have hd0 := PB.out.d0; have hd1 := PB.out.d1; have hf1 := PB.out.f1; have hr0 := PB.out.r0; have hr1 := PB.out.r1; have hg0 := PB.out.g0; have hg1 := PB.out.g1; have hsz : w.heap.size ≤ w5.heap.size := (by omega); have hz1 : w.heap.size < w5.heap.size := (by omega); have hz2 : w.heap.size + 1 < w5.heap.size := (by omega))
  go_step3; go_wp2_with fail
  go_loopg [6] n (fun g v wr => ∃ k : Nat, k ≤ n ∧ k ≤ g ∧ v = .int .i64 k ∧ wr = w5 ∧ Hid (∀ j a, k ≤ j → xs[j]? = some a → s.t < a.t))
  case atStart => exact ⟨n, by omega, by omega, rfl, rfl, fun j a hj ha => absurd (List.getElem?_eq_some_iff.1 ha).1 (by rw [L.out]; omega)⟩
  case round =>
    obtain ⟨k, hk1, hg, rfl, rfl, HA⟩ := hrel
    by_cases hk0 : k = 0
    · obtain rfl : 0 = k := hk0.symm
      have HP : Hid (pos s.t xs = 0 ∧ hit s.t xs = false) := Lib.hid ⟨pos_at s.t xs 0 (by omega) (fun j a h => absurd h (by omega)) (fun a ha => Int.le_of_lt (HA.out 0 a (by omega) ha)), hit_not (k := 0) (fun j a h => absurd h (by omega)) HA.out⟩
      have E1 : Hid (putL z xs s = xs) := Lib.hid (by unfold putL; rw [if_neg (by omega), if_neg (by rw [HP.out.2]; simp), if_pos (by rw [L.out]; omega)])
      have E2 : Hid (putC z xs s = 8) := Lib.hid (by unfold putC; rw [if_neg (by omega), if_neg (by rw [HP.out.2]; simp), if_pos (by rw [L.out]; omega)])
      go_wp2_with fail
      try rw [Exit.noGoto_ret]
      obtain ⟨k0, k1⟩ := out_two (.int .i64 z) (.slice A n c) hr0 hr1
      have b6 : Below w.heap.size w ((wr.setCell ⟨w.heap.size + 1 + 1, 0, none⟩ (.int .i64 z)).setCell ⟨w.heap.size + 1 + 1, 1, none⟩ (.slice A n c)) := (b5.setCell (by show _ ≤ w.heap.size + 1 + 1; omega) _).setCell (by show _ ≤ w.heap.size + 1 + 1; omega) _
      generalize ((wr.setCell ⟨w.heap.size + 1 + 1, 0, none⟩ (.int .i64 z)).setCell ⟨w.heap.size + 1 + 1, 1, none⟩ (.slice A n c)) = w6 at k0 k1 b6 ⊢
      refine bodyPost_ret (v := .tuple #[.agg #[.int .i64 z, .slice A n c], .int .i64 8]) (by simp [results, Try.results8, go_sem, k0, k1]) rfl ?_
      rw [E1.out, E2.out]
      exact ⟨A, c, by rw [L.out], by rw [L.out]; exact H.out.after b6, b6⟩

    · obtain ⟨b1, o1, x, hA, hb1, hx, r1⟩ := H.out.rd.at_ (k - 1) (by omega)
      subst hA
      have p0 : wr.cell? ⟨b1, o1 + (k - 1) * 2, none⟩ = some (.int .i64 x.t) := (b5.cell hb1).trans r1.c0
      have e2 : ((k : Int) - 1).toNat = k - 1 := by omega
      have e3 : 0 ≤ (k : Int) - 1 := by omega
      have e4 : (k : Int) - 1 < (n : Int) := by omega
      have e8 : (1 : Int) ≤ (k : Int) := by omega
      have HX := Lib.hid hx
      clear r1 hx
      rcases Int.lt_trichotomy x.t s.t with hc9 | hc9 | hc9
      · have HP : Hid (pos s.t xs = k ∧ hit s.t xs = false) := Lib.hid ⟨pos_at s.t xs k (by rw [L.out]; omega) (fun j a hj ha => by
            by_cases e : j = k - 1
            · subst e; rw [HX.out] at ha; cases ha; exact hc9
            · have := rise_get OK.out.rise (show j < k - 1 by omega) ha HX.out; omega) (fun a ha => Int.le_of_lt (HA.out k a (by omega) ha)), hit_not (k := k) (fun j a hj ha => by
            by_cases e : j = k - 1
            · subst e; rw [HX.out] at ha; cases ha; exact hc9
            · have := rise_get OK.out.rise (show j < k - 1 by omega) ha HX.out; omega) HA.out⟩
        have E1 : Hid (putL z xs s = xs) := Lib.hid (by unfold putL; rw [if_neg (by omega), if_neg (by rw [HP.out.2]; simp), if_pos (by rw [L.out]; omega)])
        have E2 : Hid (putC z xs s = 8) := Lib.hid (by unfold putC; rw [if_neg (by omega), if_neg (by rw [HP.out.2]; simp), if_pos (by rw [L.out]; omega)])
        go_wp2_with fail
        try rw [Exit.noGoto_ret]
        obtain ⟨k0, k1⟩ := out_two (.int .i64 z) (.slice (some ⟨b1, o1, none⟩) n c) hr0 hr1
        have b6 : Below w.heap.size w ((wr.setCell ⟨w.heap.size + 1 + 1, 0, none⟩ (.int .i64 z)).setCell ⟨w.heap.size + 1 + 1, 1, none⟩ (.slice (some ⟨b1, o1, none⟩) n c)) := (b5.setCell (by show _ ≤ w.heap.size + 1 + 1; omega) _).setCell (by show _ ≤ w.heap.size + 1 + 1; omega) _
        generalize ((wr.setCell ⟨w.heap.size + 1 + 1, 0, none⟩ (.int .i64 z)).setCell ⟨w.heap.size + 1 + 1, 1, none⟩ (.slice (some ⟨b1, o1, none⟩) n c)) = w6 at k0 k1 b6 ⊢
        refine bodyPost_ret (v := .tuple #[.agg #[.int .i64 z, .slice (some ⟨b1, o1, none⟩) n c], .int .i64 8]) (by simp [results, Try.results8, go_sem, k0, k1]) rfl ?_
        rw [E1.out, E2.out]
        exact ⟨(some ⟨b1, o1, none⟩), c, by rw [L.out], by rw [L.out]; exact H.out.after b6, b6⟩

      · have E1 : Hid (putL z xs s = xs) := Lib.hid (by unfold putL; rw [if_neg (by omega), if_pos (hit_of HX.out hc9)])
        have E2 : Hid (putC z xs s = 7) := Lib.hid (by unfold putC; rw [if_neg (by omega), if_pos (hit_of HX.out hc9)])
        go_wp2_with fail
        try rw [Exit.noGoto_ret]
        obtain ⟨k0, k1⟩ := out_two (.int .i64 z) (.slice (some ⟨b1, o1, none⟩) n c) hr0 hr1
        have b6 : Below w.heap.size w ((wr.setCell ⟨w.heap.size + 1 + 1, 0, none⟩ (.int .i64 z)).setCell ⟨w.heap.size + 1 + 1, 1, none⟩ (.slice (some ⟨b1, o1, none⟩) n c)) := (b5.setCell (by show _ ≤ w.heap.size + 1 + 1; omega) _).setCell (by show _ ≤ w.heap.size + 1 + 1; omega) _
        generalize ((wr.setCell ⟨w.heap.size + 1 + 1, 0, none⟩ (.int .i64 z)).setCell ⟨w.heap.size + 1 + 1, 1, none⟩ (.slice (some ⟨b1, o1, none⟩) n c)) = w6 at k0 k1 b6 ⊢
        refine bodyPost_ret (v := .tuple #[.agg #[.int .i64 z, .slice (some ⟨b1, o1, none⟩) n c], .int .i64 7]) (by simp [results, Try.results8, go_sem, k0, k1]) rfl ?_
        rw [E1.out, E2.out]
        exact ⟨(some ⟨b1, o1, none⟩), c, by rw [L.out], by rw [L.out]; exact H.out.after b6, b6⟩

      · have e5 : (x.t == s.t) = false := by simp; omega
        go_wp2_with fail
        go_roundg (k - 1)
        case measure => omega
        case rel =>
          refine ⟨k - 1, by omega, by omega, by go_num, rfl, ?_⟩
          intro j a hj ha
          by_cases e : j = k - 1
          · subst e; rw [HX.out] at ha; cases ha; exact hc9
          · exact HA.out j a (by omega) ha

set_option maxHeartbeats 4000000 in
set_option maxRecDepth 100000 in
theorem put_ins (z : Int) (A : Option Addr) (n c : Nat) (xs : List Smp) (s : Smp) (w : World) (h : GotS w n xs A c) (ok : Ok z xs) (s0 : 0 ≤ s.t) (s1 : s.t < 1099511627776) (hge : z ≤ s.t) (hn64 : n ≠ 64) :
    Calls Try.prog 8 #[.agg #[.int .i64 z, .slice A n c], .agg #[.int .i64 s.t, .int .i64 s.v]] w (PutS w z (putL z xs s) (putC z xs s)) := by
  have m1 : n ≤ 64 := by rw [← h.rd.1]; exact ok.len
  have z0 := ok.z0
  have z1 := ok.z1
  have L := Lib.hid h.rd.1
  have H := Lib.hid h
  have OK := Lib.hid ok
  clear h ok
  have m2 : ((n : Int) == 64) = false := by simp; omega
  have hlt : ¬ s.t < z := by omega
  go_enter Try.func8, Try.ntmps8
  go_wp2_with fail
  go_step3
  go_wp2_with (go_at_call 11; with_reducible refine (may_any _ _ _ _ xs _ (H.out.rd.after ((((Below.refl _ _).alloc (Nat.le_refl _) _).alloc (by simp) _).alloc (by simp; omega) _)) OK.out).mono ?_; rintro e w5 ⟨rfl, hb⟩; have b5 : Below w.heap.size w w5 := below_after ((((Below.refl _ _).alloc (Nat.le_refl _) _).alloc (by simp) _).alloc (by simp; omega) _) hb (by simp; omega); have PB : Hid (PutB w.heap.size z (.slice A n c) s w5) := Lib.hid (PutB.keep ⟨by simp [go_sem], by simp [go_sem], by simp [go_sem], by simp [go_sem], by simp [go_sem], by simp [go_sem], by simp [go_sem], by simp [go_sem], by simp [go_sem]⟩ hb); have hz : w.heap.size + 3 ≤ w5.heap.size := (by have := hb.size; simp at this; omega); clear hb; have hc0 := PB.out.c0; have hc1 := PB.out.c1; have hd0 := PB.out.d0; have hd1 := PB.out.d1; have hf1 := PB.out.f1; have hr0 := PB.out.r0; have hr1 := PB.out.r1; have hg0 := PB.out.g0; have hg1 := PB.out.g1; have hsz : w.heap.size ≤ w5.heap.size := (by omega); have hz1 : w.heap.size < w5.heap.size := (by omega); have hz2 : w.heap.size + 1 < w5.heap.size := (by omega))
  go_step3; go_wp2_with fail
  go_loopg [6] n (fun g v wr => ∃ k : Nat, k ≤ n ∧ k ≤ g ∧ v = .int .i64 k ∧ wr = w5 ∧ Hid (∀ j a, k ≤ j → xs[j]? = some a → s.t < a.t))
  case atStart => exact ⟨n, by omega, by omega, rfl, rfl, fun j a hj ha => absurd (List.getElem?_eq_some_iff.1 ha).1 (by rw [L.out]; omega)⟩
  case round =>
    obtain ⟨k, hk1, hg, rfl, rfl, HA⟩ := hrel
    by_cases hk0 : k = 0
    · obtain rfl : 0 = k := hk0.symm
      have HP : Hid (pos s.t xs = 0 ∧ hit s.t xs = false) := Lib.hid ⟨pos_at s.t xs 0 (by omega) (fun j a h => absurd h (by omega)) (fun a ha => Int.le_of_lt (HA.out 0 a (by omega) ha)), hit_not (k := 0) (fun j a h => absurd h (by omega)) HA.out⟩
      have E1 : Hid (putL z xs s = xs.take 0 ++ s :: xs.drop 0) := Lib.hid (by unfold putL; rw [if_neg (by omega), if_neg (by rw [HP.out.2]; simp), if_neg (by rw [L.out]; omega)]; unfold ins; rw [HP.out.1])
      have E2 : Hid (putC z xs s = 0) := Lib.hid (by unfold putC; rw [if_neg (by omega), if_neg (by rw [HP.out.2]; simp), if_neg (by rw [L.out]; omega)])
      have KZ : Hid ((0 : Int) = ((0 : Nat) : Int)) := Lib.hid rfl
      go_wp2_with fail
      go_region_with (
        (first
          | (go_at_call 19
             with_reducible refine (clone_any _ _ _ xs _ (H.out.rd.after (by go_grown)) H.out.nil (by omega)).mono ?_
             rintro e w6 ⟨v, rfl, hown, hb6⟩
             have hs6 : wr.heap.size ≤ w6.heap.size := (by have := hb6.size; simp at this; omega)
             have B6 : Below wr.heap.size wr w6 := below_after (by go_grown) hb6 (by simp)
             have K6 : w6.cell? ⟨w.heap.size + 1, 0, none⟩ = some (.int .i64 s.t) ∧ w6.cell? ⟨w.heap.size + 1, 1, none⟩ = some (.int .i64 s.v) := ⟨cell_after hb6 (by simp [go_sem, *]), cell_after hb6 (by simp [go_sem, *])⟩
             have k60 := K6.1
             have k61 := K6.2)
          | (go_at_call 18
             have own' := hown.alloc (.cells #[.int .i64 s.t, .int .i64 s.v] 30)
             have hv' : (w6.alloc (.cells #[.int .i64 s.t, .int .i64 s.v] 30)).heap[w6.heap.size]? = some (.cells s.enc.toArray 30 (0, 0)) := heap_at _ _ _ rfl
             have hne' : v.ownBlock ≠ some w6.heap.size := fun e => absurd (hown.block _ e).2 (Nat.lt_irrefl _)
             with_reducible refine (insert_at 0 KZ.out v n xs s _ _ L.out (by omega) own' (by simp; omega) m1 hv' hne').mono ?_
             rintro e w7 ⟨v7, rfl, own7, hg7⟩
             obtain ⟨A7, c7, rfl, q1, q2, q3⟩ := own7.form
             have FM := Lib.hid (And.intro q1 (And.intro q2 q3))
             clear q1 q2 q3
             have B7 : Below wr.heap.size wr w7 := (B6.alloc hs6 _).grown hg7 (by simp; omega) (fun g hg => by have := (hown.block g hg).1; simp at this; omega)
             have K7 : w7.cell? ⟨w.heap.size + 1, 0, none⟩ = some (.int .i64 s.t) ∧ w7.cell? ⟨w.heap.size + 1, 1, none⟩ = some (.int .i64 s.v) := ⟨cell_after B7 hd0, cell_after B7 hd1⟩
             have P7 := PB.out.keep B7
             have hc7 := P7.c1
             have hf7 := P7.f1
             have h07 := P7.c0
             clear P7)
          | (go_at_call 18
             have hv' : w6.heap[wr.heap.size]? = some (.cells s.enc.toArray 30 (0, 0)) := (hb6.block _ (by simp)).trans (heap_at _ _ _ rfl)
             have hne' : v.ownBlock ≠ some wr.heap.size := fun e => absurd (hown.block _ e).1 (by simp)
             with_reducible refine (insert_at 0 KZ.out v n xs s _ _ L.out (by omega) hown hb6.size m1 hv' hne').mono ?_
             rintro e w7 ⟨v7, rfl, own7, hg7⟩
             obtain ⟨A7, c7, rfl, q1, q2, q3⟩ := own7.form
             have FM := Lib.hid (And.intro q1 (And.intro q2 q3))
             clear q1 q2 q3
             have B7 : Below wr.heap.size wr w7 := B6.grown hg7 (by omega) (fun g hg => by have := (hown.block g hg).1; simp at this; omega)
             have K7 : w7.cell? ⟨w.heap.size + 1, 0, none⟩ = some (.int .i64 s.t) ∧ w7.cell? ⟨w.heap.size + 1, 1, none⟩ = some (.int .i64 s.v) := ⟨cell_after B7 hd0, cell_after B7 hd1⟩
             have P7 := PB.out.keep B7
             have hc7 := P7.c1
             have hf7 := P7.f1
             have h07 := P7.c0
             clear P7)))
      all_goals
        have P8 := put8 PB.out b5 B7 own7 (by simp) (by rw [List.length_append, List.length_cons, List.length_take, List.length_drop, L.out]; omega) FM.out
        generalize w7.setCell ⟨w.heap.size, 1, none⟩ (.slice A7 (n + 1) c7) = w8 at P8 ⊢
        clear hb6 hs6 B6 K6 k60 k61 hv' hne' hg7 own7 FM B7 K7 hc7 hf7 h07 hc0 hc1 hd0 hd1 hf1 hr0 hr1 hg0 hg1
        have hc0 := P8.c0
        have hc1 := P8.c1
        have hr0 := P8.r0
        have hr1 := P8.r1
        have hg0 := P8.g0
        have hg1 := P8.g1
        have H8 := Lib.hid P8
        clear P8
      all_goals go_wp2
      all_goals
        try rw [Exit.noGoto_ret]
        obtain ⟨k0, k1⟩ := out_two (.int .i64 z) (.slice A7 (n + 1) c7) hr0 hr1
        have G9 := H8.out.done (.int .i64 z) (.slice A7 (n + 1) c7)
        generalize ((w8.setCell ⟨w.heap.size + 1 + 1, 0, none⟩ (.int .i64 z)).setCell ⟨w.heap.size + 1 + 1, 1, none⟩ (.slice A7 (n + 1) c7)) = w9 at k0 k1 G9 ⊢
        refine bodyPost_ret (v := .tuple #[.agg #[.int .i64 z, .slice A7 (n + 1) c7], .int .i64 0]) (by simp [results, Try.results8, go_sem, k0, k1]) rfl ?_
        rw [E1.out, E2.out]
        have hlen : (xs.take 0 ++ s :: xs.drop 0).length = n + 1 := H8.out.len
        exact ⟨A7, c7, by rw [hlen], by rw [hlen]; exact G9.1, G9.2⟩

    · obtain ⟨b1, o1, x, hA, hb1, hx, r1⟩ := H.out.rd.at_ (k - 1) (by omega)
      subst hA
      have p0 : wr.cell? ⟨b1, o1 + (k - 1) * 2, none⟩ = some (.int .i64 x.t) := (b5.cell hb1).trans r1.c0
      have e2 : ((k : Int) - 1).toNat = k - 1 := by omega
      have e3 : 0 ≤ (k : Int) - 1 := by omega
      have e4 : (k : Int) - 1 < (n : Int) := by omega
      have e8 : (1 : Int) ≤ (k : Int) := by omega
      have HX := Lib.hid hx
      clear r1 hx
      rcases Int.lt_trichotomy x.t s.t with hc9 | hc9 | hc9
      · have HP : Hid (pos s.t xs = k ∧ hit s.t xs = false) := Lib.hid ⟨pos_at s.t xs k (by rw [L.out]; omega) (fun j a hj ha => by
            by_cases e : j = k - 1
            · subst e; rw [HX.out] at ha; cases ha; exact hc9
            · have := rise_get OK.out.rise (show j < k - 1 by omega) ha HX.out; omega) (fun a ha => Int.le_of_lt (HA.out k a (by omega) ha)), hit_not (k := k) (fun j a hj ha => by
            by_cases e : j = k - 1
            · subst e; rw [HX.out] at ha; cases ha; exact hc9
            · have := rise_get OK.out.rise (show j < k - 1 by omega) ha HX.out; omega) HA.out⟩
        have E1 : Hid (putL z xs s = xs.take k ++ s :: xs.drop k) := Lib.hid (by unfold putL; rw [if_neg (by omega), if_neg (by rw [HP.out.2]; simp), if_neg (by rw [L.out]; omega)]; unfold ins; rw [HP.out.1])
        have E2 : Hid (putC z xs s = 0) := Lib.hid (by unfold putC; rw [if_neg (by omega), if_neg (by rw [HP.out.2]; simp), if_neg (by rw [L.out]; omega)])
        go_wp2_with fail
        go_region_with (
          (first
            | (go_at_call 19
               with_reducible refine (clone_any _ _ _ xs _ (H.out.rd.after (by go_grown)) H.out.nil (by omega)).mono ?_
               rintro e w6 ⟨v, rfl, hown, hb6⟩
               have hs6 : wr.heap.size ≤ w6.heap.size := (by have := hb6.size; simp at this; omega)
               have B6 : Below wr.heap.size wr w6 := below_after (by go_grown) hb6 (by simp)
               have K6 : w6.cell? ⟨w.heap.size + 1, 0, none⟩ = some (.int .i64 s.t) ∧ w6.cell? ⟨w.heap.size + 1, 1, none⟩ = some (.int .i64 s.v) := ⟨cell_after hb6 (by simp [go_sem, *]), cell_after hb6 (by simp [go_sem, *])⟩
               have k60 := K6.1
               have k61 := K6.2)
            | (go_at_call 18
               have own' := hown.alloc (.cells #[.int .i64 s.t, .int .i64 s.v] 30)
               have hv' : (w6.alloc (.cells #[.int .i64 s.t, .int .i64 s.v] 30)).heap[w6.heap.size]? = some (.cells s.enc.toArray 30 (0, 0)) := heap_at _ _ _ rfl
               have hne' : v.ownBlock ≠ some w6.heap.size := fun e => absurd (hown.block _ e).2 (Nat.lt_irrefl _)
               with_reducible refine (insert_any _ v n k xs s _ _ L.out (by omega) own' (by simp; omega) m1 hv' hne').mono ?_
               rintro e w7 ⟨v7, rfl, own7, hg7⟩
               obtain ⟨A7, c7, rfl, q1, q2, q3⟩ := own7.form
               have FM := Lib.hid (And.intro q1 (And.intro q2 q3))
               clear q1 q2 q3
               have B7 : Below wr.heap.size wr w7 := (B6.alloc hs6 _).grown hg7 (by simp; omega) (fun g hg => by have := (hown.block g hg).1; simp at this; omega)
               have K7 : w7.cell? ⟨w.heap.size + 1, 0, none⟩ = some (.int .i64 s.t) ∧ w7.cell? ⟨w.heap.size + 1, 1, none⟩ = some (.int .i64 s.v) := ⟨cell_after B7 hd0, cell_after B7 hd1⟩
               have P7 := PB.out.keep B7
               have hc7 := P7.c1
               have hf7 := P7.f1
               have h07 := P7.c0
               clear P7)
            | (go_at_call 18
               have hv' : w6.heap[wr.heap.size]? = some (.cells s.enc.toArray 30 (0, 0)) := (hb6.block _ (by simp)).trans (heap_at _ _ _ rfl)
               have hne' : v.ownBlock ≠ some wr.heap.size := fun e => absurd (hown.block _ e).1 (by simp)
               with_reducible refine (insert_any _ v n k xs s _ _ L.out (by omega) hown hb6.size m1 hv' hne').mono ?_
               rintro e w7 ⟨v7, rfl, own7, hg7⟩
               obtain ⟨A7, c7, rfl, q1, q2, q3⟩ := own7.form
               have FM := Lib.hid (And.intro q1 (And.intro q2 q3))
               clear q1 q2 q3
               have B7 : Below wr.heap.size wr w7 := B6.grown hg7 (by omega) (fun g hg => by have := (hown.block g hg).1; simp at this; omega)
               have K7 : w7.cell? ⟨w.heap.size + 1, 0, none⟩ = some (.int .i64 s.t) ∧ w7.cell? ⟨w.heap.size + 1, 1, none⟩ = some (.int .i64 s.v) := ⟨cell_after B7 hd0, cell_after B7 hd1⟩
               have P7 := PB.out.keep B7
               have hc7 := P7.c1
               have hf7 := P7.f1
               have h07 := P7.c0
               clear P7)))
        all_goals
          have P8 := put8 PB.out b5 B7 own7 (by simp) (by rw [List.length_append, List.length_cons, List.length_take, List.length_drop, L.out]; omega) FM.out
          generalize w7.setCell ⟨w.heap.size, 1, none⟩ (.slice A7 (n + 1) c7) = w8 at P8 ⊢
          clear hb6 hs6 B6 K6 k60 k61 hv' hne' hg7 own7 FM B7 K7 hc7 hf7 h07 hc0 hc1 hd0 hd1 hf1 hr0 hr1 hg0 hg1
          have hc0 := P8.c0
          have hc1 := P8.c1
          have hr0 := P8.r0
          have hr1 := P8.r1
          have hg0 := P8.g0
          have hg1 := P8.g1
          have H8 := Lib.hid P8
          clear P8
        all_goals go_wp2
        all_goals
          try rw [Exit.noGoto_ret]
          obtain ⟨k0, k1⟩ := out_two (.int .i64 z) (.slice A7 (n + 1) c7) hr0 hr1
          have G9 := H8.out.done (.int .i64 z) (.slice A7 (n + 1) c7)
          generalize ((w8.setCell ⟨w.heap.size + 1 + 1, 0, none⟩ (.int .i64 z)).setCell ⟨w.heap.size + 1 + 1, 1, none⟩ (.slice A7 (n + 1) c7)) = w9 at k0 k1 G9 ⊢
          refine bodyPost_ret (v := .tuple #[.agg #[.int .i64 z, .slice A7 (n + 1) c7], .int .i64 0]) (by simp [results, Try.results8, go_sem, k0, k1]) rfl ?_
          rw [E1.out, E2.out]
          have hlen : (xs.take k ++ s :: xs.drop k).length = n + 1 := H8.out.len
          exact ⟨A7, c7, by rw [hlen], by rw [hlen]; exact G9.1, G9.2⟩

      · have E1 : Hid (putL z xs s = xs) := Lib.hid (by unfold putL; rw [if_neg (by omega), if_pos (hit_of HX.out hc9)])
        have E2 : Hid (putC z xs s = 7) := Lib.hid (by unfold putC; rw [if_neg (by omega), if_pos (hit_of HX.out hc9)])
        go_wp2_with fail
        try rw [Exit.noGoto_ret]
        obtain ⟨k0, k1⟩ := out_two (.int .i64 z) (.slice (some ⟨b1, o1, none⟩) n c) hr0 hr1
        have b6 : Below w.heap.size w ((wr.setCell ⟨w.heap.size + 1 + 1, 0, none⟩ (.int .i64 z)).setCell ⟨w.heap.size + 1 + 1, 1, none⟩ (.slice (some ⟨b1, o1, none⟩) n c)) := (b5.setCell (by show _ ≤ w.heap.size + 1 + 1; omega) _).setCell (by show _ ≤ w.heap.size + 1 + 1; omega) _
        generalize ((wr.setCell ⟨w.heap.size + 1 + 1, 0, none⟩ (.int .i64 z)).setCell ⟨w.heap.size + 1 + 1, 1, none⟩ (.slice (some ⟨b1, o1, none⟩) n c)) = w6 at k0 k1 b6 ⊢
        refine bodyPost_ret (v := .tuple #[.agg #[.int .i64 z, .slice (some ⟨b1, o1, none⟩) n c], .int .i64 7]) (by simp [results, Try.results8, go_sem, k0, k1]) rfl ?_
        rw [E1.out, E2.out]
        exact ⟨(some ⟨b1, o1, none⟩), c, by rw [L.out], by rw [L.out]; exact H.out.after b6, b6⟩

      · have e5 : (x.t == s.t) = false := by simp; omega
        go_wp2_with fail
        go_roundg (k - 1)
        case measure => omega
        case rel =>
          refine ⟨k - 1, by omega, by omega, by go_num, rfl, ?_⟩
          intro j a hj ha
          by_cases e : j = k - 1
          · subst e; rw [HX.out] at ha; cases ha; exact hc9
          · exact HA.out j a (by omega) ha

theorem put_any (z : Int) (A : Option Addr) (n c : Nat) (xs : List Smp) (s : Smp) (w : World) (h : GotS w n xs A c) (ok : Ok z xs) (s0 : 0 ≤ s.t) (s1 : s.t < 1099511627776) :
    Calls Try.prog 8 #[.agg #[.int .i64 z, .slice A n c], .agg #[.int .i64 s.t, .int .i64 s.v]] w (PutS w z (putL z xs s) (putC z xs s)) := by
  by_cases hlt : s.t < z
  · exact put_late z A n c xs s w h ok s0 s1 hlt
  · by_cases hn : n = 64
    · subst hn
      exact put_full z A c xs s w h ok s0 s1 (by omega)
    · exact put_ins z A n c xs s w h ok s0 s1 (by omega) hn
end Go.Proofs.Ytjimaanleamgjaa
