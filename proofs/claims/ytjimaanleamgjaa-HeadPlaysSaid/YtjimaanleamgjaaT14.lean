import Derived.Test.YtjimaanleamgjaaT13
namespace Go.Proofs.Ytjimaanleamgjaa
open Go.RowKit

/-- A slice of ints: A, n as in the slice value; its elements zs. -/
def RdI (w : World) (B : Nat) (A : Option Addr) (n : Nat) (zs : List Int) : Prop := zs.length = n ∧ Rd w B 1 A n (zs.map (Value.int .i64))
theorem RdI.at_ {w : World} {B n : Nat} {A : Option Addr} {zs : List Int} (h : RdI w B A n zs) (k : Nat) (hk : k < n) : ∃ b off x, A = some ⟨b, off, none⟩ ∧ b < B ∧ zs[k]? = some x ∧ w.cell? ⟨b, off + k, none⟩ = some (.int .i64 x) := by
  obtain ⟨hl, hr⟩ := h
  obtain ⟨b, off, hA, hb, hc⟩ := hr.2 (by omega)
  have hx : zs[k]? = some (zs[k]'(by omega)) := List.getElem?_eq_getElem (by omega)
  exact ⟨b, off, _, hA, hb, hx, hc k _ (by rw [List.getElem?_map, hx]; rfl)⟩
/-- What a frame hands over of a slice of ints. -/
def IsRow (k : IntKind) (w : World) (a : Option Addr) (len cap : Nat) (zs : List Int) : Prop :=
  (a = none ∧ len = 0 ∧ cap = 0 ∧ zs = []) ∨
  ∃ x, a = some x ∧ len ≤ cap ∧ cap ≤ maxLen ∧ zs.length = cap ∧ (∀ i, i < zs.length → w.cell? (x.add i) = some (.int k (zs.getD i 0))) ∧ ∀ n ∈ zs, (Lit.int k n).wf = true
theorem IsRow.rd {w : World} {a : Option Addr} {len cap : Nat} {zs : List Int} (h : IsRow .i64 w a len cap zs) : ∃ ys, RdI w w.heap.size a len ys ∧ len ≤ 9223372036854775807 := by
  rcases h with ⟨rfl, rfl, rfl, rfl⟩ | ⟨x, rfl, hl, hm, hz, hcell, _⟩
  · exact ⟨[], ⟨rfl, Rd.nil_ _ _ _ _⟩, by omega⟩
  · refine ⟨zs.take len, ⟨by rw [List.length_take]; omega, by rw [List.length_map, List.length_take]; omega, fun hn => ?_⟩, by unfold maxLen at hm; omega⟩
    obtain ⟨b, off, spot⟩ := x
    have hc := hcell 0 (by omega)
    have hspot : spot = none := by simpa [Addr.add] using World.cell?_spot hc
    subst hspot
    refine ⟨b, off, rfl, World.block_lt_of_cell? w ⟨b, off, none⟩ (by simpa [Addr.add] using hc), fun j u hu => ?_⟩
    have hj : j < len := by have := (List.getElem?_eq_some_iff.1 hu).1; rw [List.length_map, List.length_take] at this; omega
    have := hcell j (by omega)
    rw [Addr.add_lit] at this
    rw [this]
    rw [List.getElem?_map, List.getElem?_take, if_pos hj, List.getElem?_eq_getElem (by omega)] at hu
    simp only [Option.map_some] at hu
    rw [← hu]
    simp [List.getD, List.getElem?_eq_getElem (show j < zs.length by omega)]

/-- A head in the making: its samples, its variable. -/
def MadeAt (w : World) (g : Nat) (j : Nat) (wr : World) : Prop := ∃ xs A c, Var wr g 0 A xs.length c ∧ GotS wr xs.length xs A c ∧ Ok 0 xs ∧ xs.length ≤ j ∧ (∀ a ∈ xs, a.t < 100) ∧ Below w.heap.size w wr

theorem putL_len (z : Int) (xs : List Smp) (s : Smp) : (putL z xs s).length ≤ xs.length + 1 := by
  unfold putL
  split
  · omega
  split
  · omega
  split
  · omega
  · rw [len_ins]; omega

theorem mem_putL {z : Int} {xs : List Smp} {s a : Smp} (h : a ∈ putL z xs s) : a = s ∨ a ∈ xs := by
  unfold putL at h
  split at h
  · exact .inr h
  split at h
  · exact .inr h
  split at h
  · exact .inr h
  · exact mem_ins.1 h

set_option maxHeartbeats 4000000 in
set_option maxRecDepth 100000 in
/-- HeadSeals' walk. -/
theorem seals_any (A0 : Option Addr) (n0 c0 : Nat) (zs : List Int) (near : Int) (w : World) (h : RdI w w.heap.size A0 n0 zs) (hm : n0 ≤ 9223372036854775807) :
    Calls Try.prog 7 #[.slice A0 n0 c0, .int .i64 near] w fun e w' => e = .returned (.bool true) ∧ Below w.heap.size w w' := by
  have H := Lib.hid h
  clear h
  go_enter Try.func7, Try.ntmps7
  go_wp2
  go_loopg [6] 20 (fun g v wr => ∃ j : Nat, j ≤ n0 ∧ j ≤ 20 ∧ 20 - j ≤ g ∧ v = .int .i64 j ∧ Hid (MadeAt w w.heap.size j wr))
  case atStart => exact ⟨0, by omega, by omega, by omega, rfl, [], none, 0, Var.new _ _ _ _ _, GotS.none_ _, Ok.nil (by omega) (by omega), by simp, by simp, by go_grown⟩
  case round =>
    obtain ⟨j, hj, hj2, hg, rfl, HF⟩ := hrel
    obtain ⟨xs, A, c, hv, hgot, hok, hlen, h100, hbel⟩ := HF.out
    have H100 := Lib.hid h100
    clear h100
    clear HF
    have d0 := hv.c0
    have d1 := hv.c1
    have f0 := hv.f 0
    have f1 := hv.f 1
    have lt := hv.lt
    have HV := Lib.hid hv
    have GOT := Lib.hid hgot
    have OK := Lib.hid hok
    have BEL := Lib.hid hbel
    clear hv hgot hok hbel
    have wj : IntKind.i64.wrap ((j : Int) + 1) = (j : Int) + 1 := i64_id (by omega) (by omega)
    by_cases hlt : j < n0 ∧ j < 20
    · obtain ⟨hl1, hl2⟩ := hlt
      obtain ⟨b1, o1, x, hA, hb1, hx, hcell⟩ := H.out.at_ j hl1
      subst hA
      have hcell := (BEL.out.cell (p := ⟨b1, o1 + j, none⟩) hb1).trans hcell
      obtain ⟨r, hr, hrl⟩ := rem_nat x 100 (by omega)
      have u0 := u64_nn x
      have i1 : IntKind.i64.wrap (r : Int) = (r : Int) := i64_id (by omega) (by omega)
      have l1 : (j : Int) < (n0 : Int) := by omega
      have l2 : (j : Int) < 20 := by omega
      have hr2 : (IntKind.u64.wrap x).tmod 100 = (r : Int) := by rw [Int.tmod_eq_emod_of_nonneg u0]; exact hr
      clear hx hr
      go_wp2_with fail
      have got' : GotS wr.drew xs.length xs A c := GOT.out.after (Below.refl _ _).drew
      have GOT' := Lib.hid got'
      clear got'
      go_region_with (
        (go_at_call 8
         with_reducible refine (put_any 0 A xs.length c xs ⟨(r : Int), 0⟩ wr.drew GOT'.out OK.out (by show (0 : Int) ≤ (r : Int); omega) (by show (r : Int) < _; omega)).mono ?_
         rintro e w2 ⟨A2, c2, rfl, g2, hb⟩
         have hv2 : Var w2 w.heap.size 0 A xs.length c := (show Var wr.drew w.heap.size 0 A xs.length c from HV.out).keep hb
         have b2 : Below w.heap.size w w2 := below_after BEL.out.drew hb (by simpa using BEL.out.size)
         have e0 := hv2.c0
         have e1 := hv2.c1
         have g0 := hv2.f 0
         have g1 := hv2.f 1
         have V2 := Lib.hid hv2
         have G2 := Lib.hid g2
         have B2 := Lib.hid b2
         clear hv2 g2 b2 hb))
      all_goals
        have ok2 := OK.out.put (s := ⟨(r : Int), 0⟩) (by show (r : Int) < _; omega)
        have l2 := putL_len 0 xs ⟨(r : Int), 0⟩
        have l3 : xs.length ≤ j := hlen
        have FIN : Hid (MadeAt w w.heap.size (j + 1) ((w2.setCell ⟨w.heap.size, 0, none⟩ (.int .i64 0)).setCell ⟨w.heap.size, 1, none⟩ (.slice A2 (putL 0 xs ⟨(r : Int), 0⟩).length c2))) :=
          Lib.hid ⟨_, A2, c2, (V2.out.set 0 A2 _ c2).1, G2.out.set V2.out _ _ _ _, ok2, by omega, (fun a ha => by
            rcases mem_putL ha with rfl | ha
            · exact hrl
            · exact H100.out a ha), (B2.out.setCell (Nat.le_refl _) _).setCell (Nat.le_refl _) _⟩
        clear ok2 l2 l3 hr2 u0 i1 hcell lt e0 e1 g0 g1 d0 d1 f0 f1
        go_wp2
        go_roundg (20 - (j + 1))
        case measure => omega
        case rel => exact ⟨j + 1, by omega, by omega, by omega, by go_num, FIN⟩
    · have hge : n0 ≤ j ∨ 20 ≤ j := by omega
      rcases Nat.eq_zero_or_pos xs.length with h0 | h0
      · obtain rfl : xs = [] := List.eq_nil_of_length_eq_zero h0
        clear h0 hlen
        simp only [List.length_nil] at d1 HV GOT
        have hc : (j < n0 ∧ (20 : Int) ≤ (j : Int) ∧ ¬ j < 20) ∨ (n0 ≤ j) := by omega
        rcases hc with ⟨q1, q2, q3⟩ | q1
        all_goals
          go_wp2_with fail
          refine (seal_none 0 A c wr GOT.out OK.out).mono ?_
          rintro e w1 ⟨A1, c1, B1, e1, rfl, g1, _, hb⟩
          have hv1 := HV.out.keep hb
          have b1 := below_after BEL.out hb BEL.out.size
          have gh1 := GOT.out.after hb
          simp only [List.length_nil] at g1 gh1 ⊢
          clear hb d0 d1 f0 f1 lt
          have d0 := hv1.c0
          have d1 := hv1.c1
          have lt := hv1.lt
          have V1 := Lib.hid hv1
          clear hv1
          go_wp2_with fail
          refine (told_any _).mono ?_
          rintro e w2 ⟨rfl, hb⟩
          have hv2 := (V1.out.alloc (.cells #[.int .i64 0, .slice A1 0 c1] 25)).keep hb
          have ha2 := (Var.new w1 0 A1 0 c1).keep hb
          have g2 := (g1.after (below_alloc _ (.cells #[.int .i64 0, .slice A1 0 c1] 25))).after hb
          have gh2 := (gh1.after (below_alloc _ (.cells #[.int .i64 0, .slice A1 0 c1] 25))).after hb
          have b2 := below_after b1 (below_after (below_alloc _ _) hb (by simp)) b1.size
          clear hb d0 d1 lt V1 g1 gh1
          have d0 := hv2.c0
          have d1 := hv2.c1
          have a0 := ha2.c0
          have a1 := ha2.c1
          have G2 := Lib.hid g2
          have GH2 := Lib.hid gh2
          clear g2 gh2 hv2 ha2
          go_wp2_with fail
          refine (same_yes 0 A1 A 0 c1 c [] _ G2.out.rd GH2.out.rd (by omega)).mono ?_
          rintro e w3 ⟨rfl, hb⟩
          have b3 := below_after b2 hb b2.size
          clear hb
          go_wp2
          go_ret
          exact ⟨rfl, b3⟩
      · obtain ⟨y, hy⟩ : ∃ y, xs[xs.length - 1]? = some y := ⟨_, List.getElem?_eq_getElem (Nat.sub_lt h0 (by decide))⟩
        have y0 := OK.out.lo y (List.mem_of_getElem? hy)
        have y1 := H100.out y (List.mem_of_getElem? hy)
        have e0 : ((xs.length : Int) == 0) = false := by rw [beq_eq_false_iff_ne]; omega
        have m1 : xs.length ≤ 64 := OK.out.len
        obtain ⟨z, hz⟩ : ∃ z, y.t + 1 = z := ⟨_, rfl⟩
        have z1 : 1 ≤ z := by omega
        have z2 : z ≤ 100 := by omega
        obtain ⟨r, hr, hrl⟩ := rem_nat near 5 (by omega)
        have u0 := u64_nn near
        have i1 : IntKind.i64.wrap (r : Int) = (r : Int) := i64_id (by omega) (by omega)
        have i2 : IntKind.i64.wrap (z - 2) = z - 2 := i64_id (by omega) (by omega)
        have i3 : IntKind.i64.wrap (z - 2 + (r : Int)) = z - 2 + (r : Int) := i64_id (by omega) (by omega)
        have HY := Lib.hid hy
        have HZ := Lib.hid hz
        clear hy hz y0 y1
        have hcases : z - 2 + (r : Int) < 0 ∨ (0 ≤ z - 2 + (r : Int) ∧ r < 2) ∨ (0 ≤ z - 2 + (r : Int) ∧ 2 ≤ r) := by omega
        rcases hcases with h1 | ⟨h1, h2⟩ | ⟨h1, h2⟩
        ·
          have PL : Hid (putL z [] ⟨0, 0⟩ = []) := Lib.hid (by unfold putL; rw [if_pos (by show (0 : Int) < z; omega)])
          have PC : Hid (putC z [] ⟨0, 0⟩ = 6) := Lib.hid (by unfold putC; rw [if_pos (by show (0 : Int) < z; omega)])
          have t1 : ¬ (0 : Int) ≤ z - 2 + (r : Int) := by omega
          have t2 : (0 : Int) < z := by omega
          have hc : (j < n0 ∧ (20 : Int) ≤ (j : Int) ∧ ¬ j < 20) ∨ (n0 ≤ j) := by omega
          rcases hc with ⟨q1, q2, q3⟩ | q1
          all_goals
            go_wp2_with fail
            refine (seal_some 0 A xs.length c xs y wr GOT.out OK.out HY.out h0).mono ?_
            rw [HZ.out]
            rintro e w1 ⟨A1, c1, B1, e1, rfl, g1, g1', hb⟩
            have hv1 := HV.out.keep hb
            have b1 := below_after BEL.out hb BEL.out.size
            simp only [List.length_nil] at g1 ⊢
            clear hb d0 d1 f0 f1 lt g1'
            have d0 := hv1.c0
            have d1 := hv1.c1
            have lt := hv1.lt
            have V1 := Lib.hid hv1
            have ga1 : GotS (w1.alloc (.cells #[.int .i64 z, .slice A1 0 c1] 25)) 0 [] A1 c1 := g1.after (below_alloc _ _)
            have GA1 := Lib.hid ga1
            clear hv1 g1 ga1
            go_wp2_with fail
            refine (seal_none z A1 c1 _ GA1.out (Ok.nil (by omega) (by omega))).mono ?_
            rintro e w2 ⟨A2, c2, B2, e2, rfl, g2, _, hb⟩
            have hv2 := (V1.out.alloc (.cells #[.int .i64 z, .slice A1 0 c1] 25)).keep hb
            have ha2 := (Var.new w1 z A1 0 c1).keep hb
            have ga2 := GA1.out.after hb
            have b2 := below_after b1 (below_after (below_alloc _ _) hb (by simp)) b1.size
            simp only [List.length_nil] at g2 ⊢
            clear hb d0 d1 lt V1 GA1 g2
            have d0 := hv2.c0
            have d1 := hv2.c1
            have lt := hv2.lt
            have a0 := ha2.c0
            have a1 := ha2.c1
            have lta := ha2.lt
            have V2 := Lib.hid hv2
            have VA2 := Lib.hid ha2
            have ga2' : GotS (w2.alloc (.cells #[.int .i64 z, .slice A2 0 c2] 25)) 0 [] A1 c1 := ga2.after (below_alloc _ _)
            have GA2 := Lib.hid ga2'
            clear hv2 ha2 ga2 ga2'
            go_wp2_with fail
            refine (put_any z A1 0 c1 [] ⟨0, 0⟩ _ GA2.out (Ok.nil (by omega) (by omega)) (by show (0 : Int) ≤ 0; omega) (by show 0 < (1099511627776 : Int); omega)).mono ?_
            rw [PL.out, PC.out]
            rintro e w3 ⟨A3, c3, rfl, g3, hb⟩
            have hv3 := (V2.out.alloc (.cells #[.int .i64 z, .slice A2 0 c2] 25)).keep hb
            have b3 := below_after b2 (below_after (below_alloc _ _) hb (by simp)) b2.size
            simp only [List.length_nil, List.length_singleton] at g3 ⊢
            clear hb d0 d1 lt V2 g3 a0 a1 lta VA2 GA2
            have d0 := hv3.c0
            have d1 := hv3.c1
            have lt := hv3.lt
            have V3 := Lib.hid hv3
            clear hv3
            go_wp2_with fail
            refine (told_any _).mono ?_
            rintro e w4 ⟨rfl, hb⟩
            have hv4 := (V3.out.alloc (.cells #[.int .i64 z, .slice A3 0 c3] 25)).keep hb
            have hb4 := (Var.new w3 z A3 0 c3).keep hb
            have b4 := below_after b3 (below_after (below_alloc _ _) hb (by simp)) b3.size
            clear hb d0 d1 lt V3
            have d0 := hv4.c0
            have d1 := hv4.c1
            have k0 := hb4.c0
            have k1 := hb4.c1
            clear hv4 hb4
            go_wp2
            go_ret
            exact ⟨rfl, b4⟩
        ·
          have PL : Hid (putL z [] ⟨z - 2 + (r : Int), 0⟩ = []) := Lib.hid (by unfold putL; rw [if_pos (by show z - 2 + (r : Int) < z; omega)])
          have PC : Hid (putC z [] ⟨z - 2 + (r : Int), 0⟩ = 6) := Lib.hid (by unfold putC; rw [if_pos (by show z - 2 + (r : Int) < z; omega)])
          have t1 : (0 : Int) ≤ z - 2 + (r : Int) := by omega
          have t2 : z - 2 + (r : Int) < z := by omega
          have t3 : decide (z - 2 + (r : Int) < z) = true := by simp; omega
          have hc : (j < n0 ∧ (20 : Int) ≤ (j : Int) ∧ ¬ j < 20) ∨ (n0 ≤ j) := by omega
          rcases hc with ⟨q1, q2, q3⟩ | q1
          all_goals
            go_wp2_with fail
            refine (seal_some 0 A xs.length c xs y wr GOT.out OK.out HY.out h0).mono ?_
            rw [HZ.out]
            rintro e w1 ⟨A1, c1, B1, e1, rfl, g1, g1', hb⟩
            have hv1 := HV.out.keep hb
            have b1 := below_after BEL.out hb BEL.out.size
            simp only [List.length_nil] at g1 ⊢
            clear hb d0 d1 f0 f1 lt g1'
            have d0 := hv1.c0
            have d1 := hv1.c1
            have lt := hv1.lt
            have V1 := Lib.hid hv1
            have ga1 : GotS (w1.alloc (.cells #[.int .i64 z, .slice A1 0 c1] 25)) 0 [] A1 c1 := g1.after (below_alloc _ _)
            have GA1 := Lib.hid ga1
            clear hv1 g1 ga1
            go_wp2_with fail
            refine (seal_none z A1 c1 _ GA1.out (Ok.nil (by omega) (by omega))).mono ?_
            rintro e w2 ⟨A2, c2, B2, e2, rfl, g2, _, hb⟩
            have hv2 := (V1.out.alloc (.cells #[.int .i64 z, .slice A1 0 c1] 25)).keep hb
            have ha2 := (Var.new w1 z A1 0 c1).keep hb
            have ga2 := GA1.out.after hb
            have b2 := below_after b1 (below_after (below_alloc _ _) hb (by simp)) b1.size
            simp only [List.length_nil] at g2 ⊢
            clear hb d0 d1 lt V1 GA1 g2
            have d0 := hv2.c0
            have d1 := hv2.c1
            have lt := hv2.lt
            have a0 := ha2.c0
            have a1 := ha2.c1
            have lta := ha2.lt
            have V2 := Lib.hid hv2
            have VA2 := Lib.hid ha2
            have ga2' : GotS (w2.alloc (.cells #[.int .i64 z, .slice A2 0 c2] 25)) 0 [] A1 c1 := ga2.after (below_alloc _ _)
            have GA2 := Lib.hid ga2'
            clear hv2 ha2 ga2 ga2'
            go_wp2_with fail
            refine (put_any z A1 0 c1 [] ⟨(z - 2 + (r : Int)), 0⟩ _ GA2.out (Ok.nil (by omega) (by omega)) (by show (0 : Int) ≤ (z - 2 + (r : Int)); omega) (by show (z - 2 + (r : Int)) < (1099511627776 : Int); omega)).mono ?_
            rw [PL.out, PC.out]
            rintro e w3 ⟨A3, c3, rfl, g3, hb⟩
            have hv3 := (V2.out.alloc (.cells #[.int .i64 z, .slice A2 0 c2] 25)).keep hb
            have b3 := below_after b2 (below_after (below_alloc _ _) hb (by simp)) b2.size
            simp only [List.length_nil, List.length_singleton] at g3 ⊢
            clear hb d0 d1 lt V2 g3 a0 a1 lta VA2 GA2
            have d0 := hv3.c0
            have d1 := hv3.c1
            have lt := hv3.lt
            have V3 := Lib.hid hv3
            clear hv3
            go_wp2_with fail
            refine (told_any _).mono ?_
            rintro e w4 ⟨rfl, hb⟩
            have hv4 := (V3.out.alloc (.cells #[.int .i64 z, .slice A3 0 c3] 25)).keep hb
            have hb4 := (Var.new w3 z A3 0 c3).keep hb
            have b4 := below_after b3 (below_after (below_alloc _ _) hb (by simp)) b3.size
            clear hb d0 d1 lt V3
            have d0 := hv4.c0
            have d1 := hv4.c1
            have k0 := hb4.c0
            have k1 := hb4.c1
            clear hv4 hb4
            go_wp2
            go_ret
            exact ⟨rfl, b4⟩
        ·
          have PL : Hid (putL z [] ⟨z - 2 + (r : Int), 0⟩ = [⟨z - 2 + (r : Int), 0⟩]) := Lib.hid (by unfold putL; rw [if_neg (by show ¬ z - 2 + (r : Int) < z; omega)]; simp [hit, ins, pos])
          have PC : Hid (putC z [] ⟨z - 2 + (r : Int), 0⟩ = 0) := Lib.hid (by unfold putC; rw [if_neg (by show ¬ z - 2 + (r : Int) < z; omega)]; simp [hit])
          have t1 : (0 : Int) ≤ z - 2 + (r : Int) := by omega
          have t2 : z ≤ z - 2 + (r : Int) := by omega
          have t3 : decide (z - 2 + (r : Int) < z) = false := by simp; omega
          have hc : (j < n0 ∧ (20 : Int) ≤ (j : Int) ∧ ¬ j < 20) ∨ (n0 ≤ j) := by omega
          rcases hc with ⟨q1, q2, q3⟩ | q1
          all_goals
            go_wp2_with fail
            refine (seal_some 0 A xs.length c xs y wr GOT.out OK.out HY.out h0).mono ?_
            rw [HZ.out]
            rintro e w1 ⟨A1, c1, B1, e1, rfl, g1, g1', hb⟩
            have hv1 := HV.out.keep hb
            have b1 := below_after BEL.out hb BEL.out.size
            simp only [List.length_nil] at g1 ⊢
            clear hb d0 d1 f0 f1 lt g1'
            have d0 := hv1.c0
            have d1 := hv1.c1
            have lt := hv1.lt
            have V1 := Lib.hid hv1
            have ga1 : GotS (w1.alloc (.cells #[.int .i64 z, .slice A1 0 c1] 25)) 0 [] A1 c1 := g1.after (below_alloc _ _)
            have GA1 := Lib.hid ga1
            clear hv1 g1 ga1
            go_wp2_with fail
            refine (seal_none z A1 c1 _ GA1.out (Ok.nil (by omega) (by omega))).mono ?_
            rintro e w2 ⟨A2, c2, B2, e2, rfl, g2, _, hb⟩
            have hv2 := (V1.out.alloc (.cells #[.int .i64 z, .slice A1 0 c1] 25)).keep hb
            have ha2 := (Var.new w1 z A1 0 c1).keep hb
            have ga2 := GA1.out.after hb
            have b2 := below_after b1 (below_after (below_alloc _ _) hb (by simp)) b1.size
            simp only [List.length_nil] at g2 ⊢
            clear hb d0 d1 lt V1 GA1 g2
            have d0 := hv2.c0
            have d1 := hv2.c1
            have lt := hv2.lt
            have a0 := ha2.c0
            have a1 := ha2.c1
            have lta := ha2.lt
            have V2 := Lib.hid hv2
            have VA2 := Lib.hid ha2
            have ga2' : GotS (w2.alloc (.cells #[.int .i64 z, .slice A2 0 c2] 25)) 0 [] A1 c1 := ga2.after (below_alloc _ _)
            have GA2 := Lib.hid ga2'
            clear hv2 ha2 ga2 ga2'
            go_wp2_with fail
            refine (put_any z A1 0 c1 [] ⟨(z - 2 + (r : Int)), 0⟩ _ GA2.out (Ok.nil (by omega) (by omega)) (by show (0 : Int) ≤ (z - 2 + (r : Int)); omega) (by show (z - 2 + (r : Int)) < (1099511627776 : Int); omega)).mono ?_
            rw [PL.out, PC.out]
            rintro e w3 ⟨A3, c3, rfl, g3, hb⟩
            have hv3 := (V2.out.alloc (.cells #[.int .i64 z, .slice A2 0 c2] 25)).keep hb
            have b3 := below_after b2 (below_after (below_alloc _ _) hb (by simp)) b2.size
            simp only [List.length_nil, List.length_singleton] at g3 ⊢
            clear hb d0 d1 lt V2 g3 a0 a1 lta VA2 GA2
            have d0 := hv3.c0
            have d1 := hv3.c1
            have lt := hv3.lt
            have V3 := Lib.hid hv3
            clear hv3
            go_wp2_with fail
            refine (told_any _).mono ?_
            rintro e w4 ⟨rfl, hb⟩
            have hv4 := (V3.out.alloc (.cells #[.int .i64 z, .slice A3 1 c3] 25)).keep hb
            have hb4 := (Var.new w3 z A3 1 c3).keep hb
            have b4 := below_after b3 (below_after (below_alloc _ _) hb (by simp)) b3.size
            clear hb d0 d1 lt V3
            have d0 := hv4.c0
            have d1 := hv4.c1
            have k0 := hb4.c0
            have k1 := hb4.c1
            clear hv4 hb4
            go_wp2
            go_ret
            exact ⟨rfl, b4⟩
theorem seals_row (a0 : Option Addr) (len0 cap0 : Nat) (z0 : List Int) (a1 : Int) (w : World) (w0 : IsRow .i64 w a0 len0 cap0 z0) (_w1 : (Lit.int .i64 a1).wf = true) :
    Calls Try.prog 7 #[.slice a0 len0 cap0, .int .i64 a1] w fun e w' => e = .returned (.bool true) ∧ Below w.heap.size w w' := by
  obtain ⟨ys, h, hm⟩ := w0.rd
  exact seals_any a0 len0 cap0 ys a1 w h hm
end Go.Proofs.Ytjimaanleamgjaa
