import Derived.Test.YtjimaanleamgjaaT12
namespace Go.Proofs.Ytjimaanleamgjaa
open Go.RowKit

/-- A sample behind all that are there. -/
theorem put_last {z : Int} {xs : List Smp} {s : Smp} (hz : z ≤ s.t) (hl : ∀ a ∈ xs, a.t < s.t) (hn : xs.length < 64) : putL z xs s = xs ++ [s] ∧ putC z xs s = 0 := by
  have hp : pos s.t xs = xs.length := pos_at s.t xs _ (Nat.le_refl _) (fun j a _ ha => hl a (List.mem_of_getElem? ha)) (fun a ha => absurd (List.getElem?_eq_some_iff.1 ha).1 (Nat.lt_irrefl _))
  have hh : hit s.t xs = false := hit_not (k := xs.length) (fun j a _ ha => hl a (List.mem_of_getElem? ha)) (fun j a hj ha => absurd (List.getElem?_eq_some_iff.1 ha).1 (by omega))
  unfold putL putC
  have n1 : ¬ s.t < z := by omega
  have n2 : ¬ 64 ≤ xs.length := by omega
  simp only [hh, n1, n2, if_false, Bool.false_eq_true]
  refine ⟨?_, trivial⟩
  unfold ins
  rw [hp, List.take_length, List.drop_length]

def ups (m : Nat) : List Smp := (List.range m).map fun i : Nat => ⟨3 * (i : Int), 0⟩
theorem ups_len (m : Nat) : (ups m).length = m := by simp [ups]
theorem ups_mem {m : Nat} {a : Smp} (h : a ∈ ups m) : 0 ≤ a.t ∧ a.t < 3 * (m : Int) := by
  simp only [ups, List.mem_map, List.mem_range] at h
  obtain ⟨i, hi, rfl⟩ := h
  show 0 ≤ 3 * (i : Int) ∧ 3 * (i : Int) < 3 * (m : Int)
  omega
theorem ups_succ (m : Nat) : ups (m + 1) = ups m ++ [⟨3 * (m : Int), 0⟩] := by simp [ups, List.range_succ]
theorem ups_ok : ∀ m : Nat, m ≤ 64 → Ok 0 (ups m)
  | 0, _ => Ok.nil (by omega) (by omega)
  | m + 1, h => by
    have ih := ups_ok m (by omega)
    rw [ups_succ]
    have e := put_last (z := 0) (xs := ups m) (s := ⟨3 * (m : Int), 0⟩) (by show (0 : Int) ≤ 3 * (m : Int); omega) (fun a ha => (ups_mem ha).2) (by rw [ups_len]; omega)
    rw [← e.1]
    exact ih.put (by show 3 * (m : Int) < _; omega)
theorem ups_first {m : Nat} (h : 0 < m) : (ups m)[0]? = some ⟨0, 0⟩ := by
  cases m with
  | zero => omega
  | succ m => simp [ups, List.range_succ_eq_map]
theorem ups_put {j : Nat} (h : j < 64) : putL 0 (ups j) ⟨3 * (j : Int), 0⟩ = ups (j + 1) ∧ putC 0 (ups j) ⟨3 * (j : Int), 0⟩ = 0 := by
  have e := put_last (z := 0) (xs := ups j) (s := ⟨3 * (j : Int), 0⟩) (by show (0 : Int) ≤ 3 * (j : Int); omega) (fun a ha => (ups_mem ha).2) (by rw [ups_len]; omega)
  rw [ups_succ]
  exact e
theorem ups_full {j : Nat} (h : 64 ≤ j) : putL 0 (ups 64) ⟨3 * (j : Int), 0⟩ = ups 64 ∧ putC 0 (ups 64) ⟨3 * (j : Int), 0⟩ = 8 := by
  have hh : hit (3 * (j : Int)) (ups 64) = false := hit_not (k := 64) (fun i a _ ha => by have := (ups_mem (List.mem_of_getElem? ha)).2; omega) (fun i a hi ha => absurd (List.getElem?_eq_some_iff.1 ha).1 (by rw [ups_len]; omega))
  have hh' : hit (⟨3 * (j : Int), 0⟩ : Smp).t (ups 64) = false := hh
  have n1 : ¬ (⟨3 * (j : Int), 0⟩ : Smp).t < 0 := by show ¬ 3 * (j : Int) < 0; omega
  have n2 : 64 ≤ (ups 64).length := by rw [ups_len]; omega
  unfold putL putC
  rw [if_neg n1, if_neg n1, hh']
  simp only [n2, if_true, Bool.false_eq_true, if_false, and_self]

/-- HeadFull behind j samples. -/
def FullAt (w : World) (m : Nat) (wr : World) : Prop := ∃ A c, Var wr w.heap.size 0 A m c ∧ GotS wr m (ups m) A c ∧ Below w.heap.size w wr

set_option maxHeartbeats 2000000 in
set_option maxRecDepth 100000 in
/-- HeadFull's walk. -/
theorem full_row (a0 : Int) (w : World) (_w0 : (Lit.int .i64 a0).wf = true) : Calls Try.prog 5 #[.int .i64 a0] w fun e w' => e = .returned (.bool true) ∧ Below w.heap.size w w' := by
  obtain ⟨r, hr, hrl⟩ := rem_nat a0 8 (by omega)
  have u0 := u64_nn a0
  have i1 : IntKind.i64.wrap (r : Int) = (r : Int) := i64_id (by omega) (by omega)
  have i2 : IntKind.i64.wrap (60 + (r : Int)) = 60 + (r : Int) := i64_id (by omega) (by omega)
  go_enter Try.func5, Try.ntmps5
  go_wp2
  clear hr u0 i1 i2
  go_loopg [5] (60 + r) (fun g v wr => ∃ j : Nat, j ≤ 60 + r ∧ 60 + r - j ≤ g ∧ v = .int .i64 j ∧ Hid (FullAt w (min j 64) wr))
  case atStart => exact ⟨0, by omega, by omega, rfl, none, 0, Var.new _ _ _ _ _, GotS.none_ _, by go_grown⟩
  case round =>
    obtain ⟨j, hj, hg, rfl, HF⟩ := hrel
    obtain ⟨A, c, hv, hgot, hbel⟩ := HF.out
    clear HF
    have c0 := hv.c0
    have c1 := hv.c1
    have HV := Lib.hid hv
    have GOT := Lib.hid hgot
    have BEL := Lib.hid hbel
    clear hv hgot hbel
    have wj : IntKind.i64.wrap ((j : Int) + 1) = (j : Int) + 1 := i64_id (by omega) (by omega)
    have w3 : IntKind.i64.wrap (3 * (j : Int)) = 3 * (j : Int) := i64_id (by omega) (by omega)
    by_cases hlt : j < 60 + r
    · have hlt' : (j : Int) < 60 + (r : Int) := by omega
      by_cases h64 : j < 64
      · have hm : min j 64 = j := by omega
        have hm1 : min (j + 1) 64 = j + 1 := by omega
        rw [hm] at c1 HV GOT
        have h64' : (j : Int) < 64 := by omega
        have HM1 := Lib.hid hm1
        clear hm hm1
        go_wp2_with fail
        refine (put_any 0 A j c (ups j) ⟨3 * (j : Int), 0⟩ wr GOT.out (ups_ok j (by omega)) (by show (0 : Int) ≤ 3 * (j : Int); omega) (by show 3 * (j : Int) < _; omega)).mono ?_
        rw [(ups_put h64).1, (ups_put h64).2]
        rintro e w2 ⟨A2, c2, rfl, g2, hb⟩
        rw [ups_len] at g2 ⊢
        have hv2 := HV.out.keep hb
        have b2 := below_after BEL.out hb BEL.out.size
        have d0 := hv2.c0
        have d1 := hv2.c1
        have f0 := hv2.f 0
        have f1 := hv2.f 1
        have lt := hv2.lt
        have V2 := Lib.hid hv2
        have G2 := Lib.hid g2
        have B2 := Lib.hid b2
        clear c0 c1 hb hv2 g2 b2
        go_wp2
        go_roundg (60 + r - (j + 1))
        case measure => omega
        case rel =>
          refine ⟨j + 1, by omega, by omega, by go_num, ?_⟩
          rw [HM1.out]
          exact ⟨A2, c2, ((V2.out.set 0 A2 (j + 1) c2).1).alloc _, (G2.out.set V2.out _ _ _ _).after (below_alloc _ _), (((B2.out.setCell (Nat.le_refl _) _).setCell (Nat.le_refl _) _).alloc (by simp; exact B2.out.size) _)⟩
      · have hm : min j 64 = 64 := by omega
        have hm1 : min (j + 1) 64 = 64 := by omega
        rw [hm] at c1 HV GOT
        have h64' : ¬ (j : Int) < 64 := by omega
        have d64 : decide ((j : Int) < 64) = false := by simp; omega
        have h64n : 64 ≤ j := by omega
        have HM1 := Lib.hid hm1
        clear hm hm1
        go_wp2_with fail
        refine (put_any 0 A 64 c (ups 64) ⟨3 * (j : Int), 0⟩ wr GOT.out (ups_ok 64 (by omega)) (by show (0 : Int) ≤ 3 * (j : Int); omega) (by show 3 * (j : Int) < _; omega)).mono ?_
        rw [(ups_full h64n).1, (ups_full h64n).2]
        rintro e w2 ⟨A2, c2, rfl, g2, hb⟩
        rw [ups_len] at g2 ⊢
        have hv2 := HV.out.keep hb
        have b2 := below_after BEL.out hb BEL.out.size
        have d0 := hv2.c0
        have d1 := hv2.c1
        have f0 := hv2.f 0
        have f1 := hv2.f 1
        have lt := hv2.lt
        have V2 := Lib.hid hv2
        have G2 := Lib.hid g2
        have B2 := Lib.hid b2
        clear c0 c1 hb hv2 g2 b2
        go_wp2
        go_roundg (60 + r - (j + 1))
        case measure => omega
        case rel =>
          refine ⟨j + 1, by omega, by omega, by go_num, ?_⟩
          rw [HM1.out]
          exact ⟨A2, c2, ((V2.out.set 0 A2 64 c2).1).alloc _, (G2.out.set V2.out _ _ _ _).after (below_alloc _ _), (((B2.out.setCell (Nat.le_refl _) _).setCell (Nat.le_refl _) _).alloc (by simp; exact B2.out.size) _)⟩
    · have hjk : j = 60 + r := by omega
      have hlt' : ¬ (j : Int) < 60 + (r : Int) := by omega
      obtain ⟨m, hm⟩ : ∃ m, m = min j 64 := ⟨_, rfl⟩
      rw [← hm] at c1 HV GOT
      have m1 : m ≤ 64 := by omega
      have m0 : 0 < m := by omega
      have HM := Lib.hid hm
      have HJ := Lib.hid hjk
      clear hm hjk hlt'
      have hlt2 : ¬ j < 60 + r := hlt
      go_wp2_with fail
      refine (default_any _).mono ?_
      rintro e w1 ⟨rfl, hb⟩
      have hv1 := HV.out.keep hb
      have g1 := GOT.out.after hb
      have b1 := below_after BEL.out hb BEL.out.size
      clear hb c0 c1
      go_wp2_with fail
      have T0 : Hid (PVs w1.heap.size 64 30 (w1.alloc (.cells #[.int .i64 60, .int .i64 600, .int .i64 6000, .int .i64 0, .int .i64 64, .int .i64 30] 40))) :=
        Lib.hid ⟨by simp [go_sem], by simp [go_sem], by simp [go_sem], by simp [go_sem], by simp [go_sem], by simp [go_sem]⟩
      refine (told_any _).mono ?_
      rintro e w2 ⟨rfl, hb⟩
      have hv2 := (hv1.alloc (.cells #[.int .i64 60, .int .i64 600, .int .i64 6000, .int .i64 0, .int .i64 64, .int .i64 30] 40)).keep hb
      have g2 := (g1.after (below_alloc _ _)).after hb
      have b2 := below_after b1 (below_after (below_alloc _ _) hb (by simp)) b1.size
      have T2 := T0.out.keep hb
      clear hb hv1 g1 T0
      have d0 := hv2.c0
      have d1 := hv2.c1
      have q0 := T2.p0
      have q1 := T2.p1
      have q2 := T2.p2
      have q3 := T2.p3
      have q4 := T2.p4
      have q5 := T2.p5
      have V2 := Lib.hid hv2
      have G2 := Lib.hid g2
      clear hv2 g2 T2
      have hfst := ups_first m0
      have hmk : (4 < r ∧ m = 64) ∨ (r = 4 ∧ m = 60 + r) ∨ (r < 4 ∧ m = 60 + r) := by have := HM.out; have := HJ.out; omega
      have b2' := Lib.hid b2
      clear b2
      rcases hmk with ⟨hk1, hk2⟩ | ⟨hk1, hk2⟩ | ⟨hk1, hk2⟩
      · have HD : Hid (dueB 64 m (⟨0, 0⟩ : Smp).t 30 0 = true) := Lib.hid (by simp [dueB]; omega)
        have e3 : (4 : Int) < (r : Int) := by omega
        have e4 : 4 < r := by omega
        have e4' : 4 ≤ r := by omega
        have e5 : ((m : Int) == 64) = true := by simp; omega
        have okm := ups_ok m m1
        have OKM := Lib.hid okm
        have HF := Lib.hid hfst
        have HM2 := Lib.hid hk2
        clear okm hk2 hfst
        go_wp2_with fail
        refine (due_some 0 A m c (ups m) ⟨0, 0⟩ 64 30 0 w2 G2.out.rd OKM.out HF.out (by omega) (by omega) (by omega) (by omega)).mono ?_
        rw [HD.out]
        rintro e w3 ⟨rfl, hb⟩
        have hv3 := V2.out.keep hb
        have g3 := G2.out.after hb
        have b3 := below_after b2'.out hb b2'.out.size
        clear hb d0 d1 q0 q1 q2 q3 q4 q5
        have d0 := hv3.c0
        have d1 := hv3.c1
        have G3 := Lib.hid g3
        have B3 := Lib.hid b3
        clear hv3 g3 b3
        go_wp2_with fail
        refine (may_any 0 A m c (ups m) w3 G3.out.rd OKM.out).mono ?_
        rintro e w4 ⟨rfl, hb⟩
        have b4 := below_after B3.out hb B3.out.size
        clear hb
        go_wp2
        go_ret
        first | exact ⟨rfl, b4⟩ | exact ⟨ret_bool (by simp; omega), b4⟩
      · have HD : Hid (dueB 64 m (⟨0, 0⟩ : Smp).t 30 0 = true) := Lib.hid (by simp [dueB]; omega)
        have e4 : ¬ 4 < r := by omega
        have e4' : 4 ≤ r := by omega
        have e4'' : r ≤ 4 := by omega
        have e5 : ((m : Int) == 60 + (r : Int)) = true := by simp; omega
        have HK := Lib.hid hk1
        clear hk1
        have okm := ups_ok m m1
        have OKM := Lib.hid okm
        have HF := Lib.hid hfst
        have HM2 := Lib.hid hk2
        clear okm hk2 hfst
        go_wp2_with fail
        refine (due_some 0 A m c (ups m) ⟨0, 0⟩ 64 30 0 w2 G2.out.rd OKM.out HF.out (by omega) (by omega) (by omega) (by omega)).mono ?_
        rw [HD.out]
        rintro e w3 ⟨rfl, hb⟩
        have hv3 := V2.out.keep hb
        have g3 := G2.out.after hb
        have b3 := below_after b2'.out hb b2'.out.size
        clear hb d0 d1 q0 q1 q2 q3 q4 q5
        have d0 := hv3.c0
        have d1 := hv3.c1
        have G3 := Lib.hid g3
        have B3 := Lib.hid b3
        clear hv3 g3 b3
        go_wp2_with fail
        refine (may_any 0 A m c (ups m) w3 G3.out.rd OKM.out).mono ?_
        rintro e w4 ⟨rfl, hb⟩
        have b4 := below_after B3.out hb B3.out.size
        clear hb
        go_wp2
        go_ret
        first | exact ⟨rfl, b4⟩ | exact ⟨ret_bool (by simp; omega), b4⟩
      · have HD : Hid (dueB 64 m (⟨0, 0⟩ : Smp).t 30 0 = false) := Lib.hid (by simp [dueB]; omega)
        have e4 : r ≤ 4 := by omega
        have e4' : r < 4 := by omega
        have e5 : ((m : Int) == 60 + (r : Int)) = true := by simp; omega
        have okm := ups_ok m m1
        have OKM := Lib.hid okm
        have HF := Lib.hid hfst
        have HM2 := Lib.hid hk2
        clear okm hk2 hfst
        go_wp2_with fail
        refine (due_some 0 A m c (ups m) ⟨0, 0⟩ 64 30 0 w2 G2.out.rd OKM.out HF.out (by omega) (by omega) (by omega) (by omega)).mono ?_
        rw [HD.out]
        rintro e w3 ⟨rfl, hb⟩
        have hv3 := V2.out.keep hb
        have g3 := G2.out.after hb
        have b3 := below_after b2'.out hb b2'.out.size
        clear hb d0 d1 q0 q1 q2 q3 q4 q5
        have d0 := hv3.c0
        have d1 := hv3.c1
        have G3 := Lib.hid g3
        have B3 := Lib.hid b3
        clear hv3 g3 b3
        go_wp2_with fail
        refine (may_any 0 A m c (ups m) w3 G3.out.rd OKM.out).mono ?_
        rintro e w4 ⟨rfl, hb⟩
        have b4 := below_after B3.out hb B3.out.size
        clear hb
        go_wp2
        go_ret
        first | exact ⟨rfl, b4⟩ | exact ⟨ret_bool (by simp; omega), b4⟩
end Go.Proofs.Ytjimaanleamgjaa
