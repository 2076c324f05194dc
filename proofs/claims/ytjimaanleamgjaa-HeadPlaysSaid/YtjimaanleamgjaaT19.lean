import Derived.Test.YtjimaanleamgjaaT18
namespace Go.Proofs.Ytjimaanleamgjaa
open Go.RowKit


theorem GotS.zero {w w' : World} {A : Option Addr} {c : Nat} (h : GotS w 0 [] A c) : GotS w' 0 [] A c := ⟨RdS.empty _ _ _, h.le, h.cap, h.nil, fun _ _ _ h => absurd h (by omega)⟩
theorem putC_zero {z : Int} {xs : List Smp} {s : Smp} (h : putC z xs s = 0) : (putL z xs s).length = xs.length + 1 := by
  unfold putC at h
  unfold putL
  split at h
  · omega
  split at h
  · omega
  split at h
  · omega
  · rename_i h1 h2 h3
    rw [if_neg h1, if_neg h2, if_neg h3, len_ins]
theorem putC_not {z : Int} {xs : List Smp} {s : Smp} (h : putC z xs s ≠ 0) : putL z xs s = xs := by
  unfold putC at h
  unfold putL
  split at h
  · rw [if_pos ‹_›]
  · rw [if_neg ‹_›]
    split at h
    · rw [if_pos ‹_›]
    · rw [if_neg ‹_›]
      split at h
      · rw [if_pos ‹_›]
      · exact absurd rfl h

/-- HeadPlays in the middle: two heads of one content, what was sealed so far. -/
def PlaysAt (w : World) (N : Nat) (vo : Value) (wr : World) : Prop :=
  ∃ (z : Int) (xs os : List Smp) (A : Option Addr) (c : Nat) (B : Option Addr) (d : Nat), Var wr w.heap.size z A xs.length c ∧ GotS wr xs.length xs A c ∧ Var wr (w.heap.size + 1) z B xs.length d ∧ GotS wr xs.length xs B d ∧ Ok z xs ∧
    Own wr (w.heap.size + 2) 30 2 vo os.length (os.flatMap Smp.enc) ∧ os.Pairwise (fun a b => a.t < b.t) ∧ (∀ s ∈ os, s.t < z) ∧ os.length + xs.length = N ∧ Below w.heap.size w wr ∧ w.heap.size + 2 ≤ wr.heap.size

/-- Both heads are written anew. -/
theorem plays_set {w w4 : World} {z z' : Int} {A B A2 B3 : Option Addr} {n c n' d m c2 d3 k : Nat} {ys : List Smp} {vo : Value} {cs : List Value} (VA : Var w4 w.heap.size z A n c) (VB : Var w4 (w.heap.size + 1) z B n' d) (Ga : GotS w4 m ys A2 c2) (Gb : GotS w4 m ys B3 d3)
    (OW : Own w4 (w.heap.size + 2) 30 2 vo k cs) (BEL : Below w.heap.size w w4) :
    Var ((((w4.setCell ⟨w.heap.size, 0, none⟩ (.int .i64 z')).setCell ⟨w.heap.size, 1, none⟩ (.slice A2 m c2)).setCell ⟨w.heap.size + 1, 0, none⟩ (.int .i64 z')).setCell ⟨w.heap.size + 1, 1, none⟩ (.slice B3 m d3)).drew w.heap.size z' A2 m c2 ∧
    Var ((((w4.setCell ⟨w.heap.size, 0, none⟩ (.int .i64 z')).setCell ⟨w.heap.size, 1, none⟩ (.slice A2 m c2)).setCell ⟨w.heap.size + 1, 0, none⟩ (.int .i64 z')).setCell ⟨w.heap.size + 1, 1, none⟩ (.slice B3 m d3)).drew (w.heap.size + 1) z' B3 m d3 ∧
    GotS ((((w4.setCell ⟨w.heap.size, 0, none⟩ (.int .i64 z')).setCell ⟨w.heap.size, 1, none⟩ (.slice A2 m c2)).setCell ⟨w.heap.size + 1, 0, none⟩ (.int .i64 z')).setCell ⟨w.heap.size + 1, 1, none⟩ (.slice B3 m d3)).drew m ys A2 c2 ∧
    GotS ((((w4.setCell ⟨w.heap.size, 0, none⟩ (.int .i64 z')).setCell ⟨w.heap.size, 1, none⟩ (.slice A2 m c2)).setCell ⟨w.heap.size + 1, 0, none⟩ (.int .i64 z')).setCell ⟨w.heap.size + 1, 1, none⟩ (.slice B3 m d3)).drew m ys B3 d3 ∧
    Own ((((w4.setCell ⟨w.heap.size, 0, none⟩ (.int .i64 z')).setCell ⟨w.heap.size, 1, none⟩ (.slice A2 m c2)).setCell ⟨w.heap.size + 1, 0, none⟩ (.int .i64 z')).setCell ⟨w.heap.size + 1, 1, none⟩ (.slice B3 m d3)).drew (w.heap.size + 2) 30 2 vo k cs ∧
    Below w.heap.size w ((((w4.setCell ⟨w.heap.size, 0, none⟩ (.int .i64 z')).setCell ⟨w.heap.size, 1, none⟩ (.slice A2 m c2)).setCell ⟨w.heap.size + 1, 0, none⟩ (.int .i64 z')).setCell ⟨w.heap.size + 1, 1, none⟩ (.slice B3 m d3)).drew := by
  have sa := VA.set z' A2 m c2
  have vb : Var ((w4.setCell ⟨w.heap.size, 0, none⟩ (.int .i64 z')).setCell ⟨w.heap.size, 1, none⟩ (.slice A2 m c2)) (w.heap.size + 1) z B n' d := (sa.2 _ (by omega)).trans VB
  have sb := vb.set z' B3 m d3
  have ow : Own ((w4.setCell ⟨w.heap.size, 0, none⟩ (.int .i64 z')).setCell ⟨w.heap.size, 1, none⟩ (.slice A2 m c2)) (w.heap.size + 2) 30 2 vo k cs := OW.keep fun g hg => sa.2 g (by have := (OW.block g hg).1; omega)
  refine ⟨(sb.2 _ (by omega)).trans sa.1, sb.1, ((Ga.set VA z' A2 m c2).set vb z' B3 m d3).after (Below.refl _ _).drew, ((Gb.set VA z' A2 m c2).set vb z' B3 m d3).after (Below.refl _ _).drew, ow.keep fun g hg => sb.2 g (by have := (ow.block g hg).1; omega), ?_⟩
  exact ((((BEL.setCell (Nat.le_refl _) _).setCell (Nat.le_refl _) _).setCell (by show w.heap.size ≤ w.heap.size + 1; omega) _).setCell (by show w.heap.size ≤ w.heap.size + 1; omega) _).drew

set_option maxHeartbeats 8000000 in
set_option maxRecDepth 100000 in
/-- HeadPlays' walk. -/
theorem plays_any (A0 : Option Addr) (n0 c0 : Nat) (zs : List Int) (A1 : Option Addr) (n1 c1 : Nat) (ss : List Int) (w : World) (h : RdI w w.heap.size A0 n0 zs) (hm : n0 ≤ 9223372036854775807) (h' : RdI w w.heap.size A1 n1 ss) (hm' : n1 ≤ 9223372036854775807) :
    Calls Try.prog 4 #[.slice A0 n0 c0, .slice A1 n1 c1] w fun e w' => e = .returned (.bool true) ∧ Below w.heap.size w w' := by
  have H := Lib.hid h
  have H' := Lib.hid h'
  clear h h'
  go_enter Try.func4, Try.ntmps4
  go_wp2
  go_loopg [7, 8, 9] 100 (fun g s7 s8 s9 wr => ∃ (j N : Nat) (vo : Value), j ≤ n0 ∧ j ≤ 100 ∧ N ≤ j ∧ 100 - j ≤ g ∧ s9 = .int .i64 j ∧ s8 = .int .i64 N ∧ vo = s7 ∧ Hid (PlaysAt w N vo wr))
  case atStart =>
    exact ⟨0, 0, _, by omega, by omega, by omega, by omega, rfl, rfl, rfl, 0, [], [], none, 0, none, 0, (Var.new _ _ _ _ _).alloc _, GotS.none_ _, heap_at _ _ _ (by simp), GotS.none_ _, Ok.nil (by omega) (by omega), Own.nil_ _ _ _ _, List.Pairwise.nil, by simp, rfl, by go_grown, by simp⟩
  case round =>
    obtain ⟨j, N, vo, hj, hj2, hNj, hg, rfl, rfl, rfl, HF⟩ := hrel
    obtain ⟨z, xs, os, A, c, B, d, hva, hga, hvb, hgb, hok, hown, hor, hoz, hN, hbel, hsz⟩ := HF.out
    clear HF
    have z0 := hok.z0
    have z1 := hok.z1
    have a0 := hva.c0
    have a1 := hva.c1
    have la := hva.lt
    have lb := hvb.lt
    have VA := Lib.hid hva
    have GA := Lib.hid hga
    have VB := Lib.hid hvb
    have GB := Lib.hid hgb
    have OK := Lib.hid hok
    have OW := Lib.hid hown
    have OR := Lib.hid hor
    have OZ := Lib.hid hoz
    have HN := Lib.hid hN
    have BEL := Lib.hid hbel
    clear hva hga hvb hgb hok hown hor hoz hN hbel
    have wj : IntKind.i64.wrap ((j : Int) + 1) = (j : Int) + 1 := i64_id (by omega) (by omega)
    by_cases hlt : j < n0 ∧ j < 100
    · obtain ⟨hl1, hl2⟩ := hlt
      obtain ⟨b1, o1, x, hA, hb1, hx, hcell⟩ := H.out.at_ j hl1
      subst hA
      have hcell := (BEL.out.cell (p := ⟨b1, o1 + j, none⟩) hb1).trans hcell
      obtain ⟨p, hp, hpl⟩ := rem_nat x 300 (by omega)
      have u0 := u64_nn x
      have i1 : IntKind.i64.wrap (p : Int) = (p : Int) := i64_id (by omega) (by omega)
      have l1 : (j : Int) < (n0 : Int) := by omega
      have l2 : (j : Int) < 100 := by omega
      clear hx
      go_wp2_with fail
      clear hcell hp u0 i1
      have SP : Hid (w.heap.size ≤ wr.heap.size) := Lib.hid (by omega)
      have VA1 : Hid (Var (wr.alloc (.cells #[.int .i64 p, .int .i64 j] 30)) w.heap.size z A xs.length c) := Lib.hid (VA.out.alloc _)
      have GA1 : Hid (GotS (wr.alloc (.cells #[.int .i64 p, .int .i64 j] 30)) xs.length xs A c) := Lib.hid (GA.out.after (below_alloc _ _))
      have VB1 : Hid (Var (wr.alloc (.cells #[.int .i64 p, .int .i64 j] 30)) (w.heap.size + 1) z B xs.length d) := Lib.hid (VB.out.alloc _)
      have GB1 : Hid (GotS (wr.alloc (.cells #[.int .i64 p, .int .i64 j] 30)) xs.length xs B d) := Lib.hid (GB.out.after (below_alloc _ _))
      have OW1 : Hid (Own (wr.alloc (.cells #[.int .i64 p, .int .i64 j] 30)) (w.heap.size + 2) 30 2 vo os.length (os.flatMap Smp.enc)) := Lib.hid (OW.out.alloc _)
      have BEL1 : Hid (Below w.heap.size w (wr.alloc (.cells #[.int .i64 p, .int .i64 j] 30))) := Lib.hid (BEL.out.alloc SP.out _)
      have hs0 : (wr.alloc (.cells #[.int .i64 p, .int .i64 j] 30)).cell? ⟨wr.heap.size, 0, none⟩ = some (.int .i64 p) := by simp [go_sem]
      have hs1 : (wr.alloc (.cells #[.int .i64 p, .int .i64 j] 30)).cell? ⟨wr.heap.size, 1, none⟩ = some (.int .i64 j) := by simp [go_sem]
      clear a0 a1
      clear VA GA VB GB OW BEL
      generalize (wr.alloc (.cells #[.int .i64 p, .int .i64 j] 30)) = wa at VA1 GA1 VB1 GB1 OW1 BEL1 hs0 hs1 ⊢
      refine (put_any z A xs.length c xs ⟨(p : Int), (j : Int)⟩ _ GA1.out OK.out (by show (0 : Int) ≤ (p : Int); omega) (by show (p : Int) < _; omega)).mono ?_
      have ok2 := OK.out.put (s := ⟨(p : Int), (j : Int)⟩) (by show (p : Int) < _; omega)
      have hc0 : putC z xs ⟨(p : Int), (j : Int)⟩ = 0 → (putL z xs ⟨(p : Int), (j : Int)⟩).length = xs.length + 1 := putC_zero
      have hc1 : putC z xs ⟨(p : Int), (j : Int)⟩ ≠ 0 → putL z xs ⟨(p : Int), (j : Int)⟩ = xs := putC_not
      generalize hys : putL z xs ⟨(p : Int), (j : Int)⟩ = ys at ok2 hc0 hc1 ⊢
      generalize hcd : putC z xs ⟨(p : Int), (j : Int)⟩ = cd at hc0 hc1 ⊢
      have HYS := Lib.hid hys
      have HCD := Lib.hid hcd
      have OK2 := Lib.hid ok2
      have HC0 := Lib.hid hc0
      have HC1 := Lib.hid hc1
      have ym := ok2.len
      clear hys hcd ok2 hc0 hc1
      rintro e w2 ⟨A2, c2, rfl, g2, hb⟩
      have hva2 := VA1.out.keep hb
      have hvb2 := VB1.out.keep hb
      have hgb2 := GB1.out.after hb
      have how2 := OW1.out.below hb
      have hb2 := below_after BEL1.out hb BEL1.out.size
      have hs0 := cell_after hb hs0
      have hs1 := cell_after hb hs1
      have b0 := hvb2.c0
      have b1' := hvb2.c1
      have lb2 := hvb2.lt
      have ls2 : wr.heap.size < w2.heap.size := World.block_lt_of_cell? w2 _ hs0
      have e2a : w.heap.size + 2 ≤ w2.heap.size := by omega
      have VA2 := Lib.hid hva2
      have VB2 := Lib.hid hvb2
      have GB2 := Lib.hid hgb2
      have OW2 := Lib.hid how2
      have BEL2 := Lib.hid hb2
      have G2 := Lib.hid g2
      clear hb VA1 VB1 GA1 GB1 OW1 BEL1 hva2 hvb2 hgb2 how2 hb2 g2
      go_wp2_with fail
      have VA3 : Hid (Var (w2.alloc (.cells #[.int .i64 z, .slice A2 ys.length c2] 25)) w.heap.size z A xs.length c) := Lib.hid (VA2.out.alloc _)
      have VB3 : Hid (Var (w2.alloc (.cells #[.int .i64 z, .slice A2 ys.length c2] 25)) (w.heap.size + 1) z B xs.length d) := Lib.hid (VB2.out.alloc _)
      have Va3 : Hid (Var (w2.alloc (.cells #[.int .i64 z, .slice A2 ys.length c2] 25)) w2.heap.size z A2 ys.length c2) := Lib.hid (Var.new _ _ _ _ _)
      have GB3 : Hid (GotS (w2.alloc (.cells #[.int .i64 z, .slice A2 ys.length c2] 25)) xs.length xs B d) := Lib.hid (GB2.out.after (below_alloc _ _))
      have Ga3 : Hid (GotS (w2.alloc (.cells #[.int .i64 z, .slice A2 ys.length c2] 25)) ys.length ys A2 c2) := Lib.hid (G2.out.after (below_alloc _ _))
      have OW3 : Hid (Own (w2.alloc (.cells #[.int .i64 z, .slice A2 ys.length c2] 25)) (w.heap.size + 2) 30 2 vo os.length (os.flatMap Smp.enc)) := Lib.hid (OW2.out.alloc _)
      have BEL3 : Hid (Below w.heap.size w (w2.alloc (.cells #[.int .i64 z, .slice A2 ys.length c2] 25))) := Lib.hid (BEL2.out.alloc BEL2.out.size _)
      clear VA2 VB2 GB2 G2 OW2 BEL2 hs0 hs1 b0 b1' lb2 ls2
      generalize (w2.alloc (.cells #[.int .i64 z, .slice A2 ys.length c2] 25)) = wb at VA3 VB3 Va3 GB3 Ga3 OW3 BEL3 ⊢
      refine (refPut_any z B xs.length d xs ⟨(p : Int), (j : Int)⟩ _ GB3.out OK.out (by show (0 : Int) ≤ (p : Int); omega) (by show (p : Int) < _; omega)).mono ?_
      rw [HYS.out, HCD.out]
      rintro e w3 ⟨B3, d3, rfl, g3, hb⟩
      have VA4 := Lib.hid (VA3.out.keep hb)
      have VB4 := Lib.hid (VB3.out.keep hb)
      have Va4 := Lib.hid (Va3.out.keep hb)
      have Ga4 := Lib.hid (Ga3.out.after hb)
      have OW4 := Lib.hid (OW3.out.below hb)
      have BEL4 := Lib.hid (below_after BEL3.out hb BEL3.out.size)
      have Gb4 := Lib.hid g3
      clear hb g3 VA3 VB3 Va3 GB3 Ga3 OW3 BEL3
      have a0 := Va4.out.c0
      have a1 := Va4.out.c1
      have la4 := Va4.out.lt
      have e2b : w2.heap.size < w3.heap.size := la4
      go_wp2_with fail
      have VA5 : Hid (Var (w3.alloc (.cells #[.int .i64 z, .slice B3 ys.length d3] 25)) w.heap.size z A xs.length c) := Lib.hid (VA4.out.alloc _)
      have VB5 : Hid (Var (w3.alloc (.cells #[.int .i64 z, .slice B3 ys.length d3] 25)) (w.heap.size + 1) z B xs.length d) := Lib.hid (VB4.out.alloc _)
      have Va5 : Hid (Var (w3.alloc (.cells #[.int .i64 z, .slice B3 ys.length d3] 25)) w2.heap.size z A2 ys.length c2) := Lib.hid (Va4.out.alloc _)
      have Vb5 : Hid (Var (w3.alloc (.cells #[.int .i64 z, .slice B3 ys.length d3] 25)) w3.heap.size z B3 ys.length d3) := Lib.hid (Var.new _ _ _ _ _)
      have Ga5 : Hid (GotS (w3.alloc (.cells #[.int .i64 z, .slice B3 ys.length d3] 25)) ys.length ys A2 c2) := Lib.hid (Ga4.out.after (below_alloc _ _))
      have Gb5 : Hid (GotS (w3.alloc (.cells #[.int .i64 z, .slice B3 ys.length d3] 25)) ys.length ys B3 d3) := Lib.hid (Gb4.out.after (below_alloc _ _))
      have OW5 : Hid (Own (w3.alloc (.cells #[.int .i64 z, .slice B3 ys.length d3] 25)) (w.heap.size + 2) 30 2 vo os.length (os.flatMap Smp.enc)) := Lib.hid (OW4.out.alloc _)
      have BEL5 : Hid (Below w.heap.size w (w3.alloc (.cells #[.int .i64 z, .slice B3 ys.length d3] 25))) := Lib.hid (BEL4.out.alloc BEL4.out.size _)
      clear VA4 VB4 Va4 Ga4 Gb4 OW4 BEL4 a0 a1 la4
      generalize (w3.alloc (.cells #[.int .i64 z, .slice B3 ys.length d3] 25)) = wc at VA5 VB5 Va5 Vb5 Ga5 Gb5 OW5 BEL5 ⊢
      refine (lawSame_any z A2 B3 ys.length c2 d3 ys _ Ga5.out.rd Gb5.out.rd ym).mono ?_
      rintro e w4 ⟨rfl, hb⟩
      have VA6 := Lib.hid (VA5.out.keep hb)
      have VB6 := Lib.hid (VB5.out.keep hb)
      have Va6 := Lib.hid (Va5.out.keep hb)
      have Vb6 := Lib.hid (Vb5.out.keep hb)
      have Ga6 := Lib.hid (Ga5.out.after hb)
      have Gb6 := Lib.hid (Gb5.out.after hb)
      have OW6 := Lib.hid (OW5.out.below hb)
      have BEL6 := Lib.hid (below_after BEL5.out hb BEL5.out.size)
      clear hb VA5 VB5 Va5 Vb5 Ga5 Gb5 OW5 BEL5
      have a0 := Va6.out.c0
      have a1 := Va6.out.c1
      have b0 := Vb6.out.c0
      have b1' := Vb6.out.c1
      have ha0 := VA6.out.c0
      have ha1 := VA6.out.c1
      have hb0 := VB6.out.c0
      have hb1' := VB6.out.c1
      have fa0 := VA6.out.f 0
      have fa1 := VA6.out.f 1
      have fb0 := VB6.out.f 0
      have fb1 := VB6.out.f 1
      go_wp2_with fail
      have ne1 : ¬ w.heap.size = w2.heap.size := by omega
      have ne2 : ¬ w.heap.size = w3.heap.size := by omega
      have ne3 : ¬ w.heap.size + 1 = w2.heap.size := by omega
      have ne4 : ¬ w.heap.size + 1 = w3.heap.size := by omega
      go_region_held3 (fun w' => w'.cell? ⟨w2.heap.size, 0, none⟩ = some (.int .i64 z) ∧ w'.cell? ⟨w2.heap.size, 1, none⟩ = some (.slice A2 ys.length c2) ∧ w'.cell? ⟨w3.heap.size, 0, none⟩ = some (.int .i64 z) ∧ w'.cell? ⟨w3.heap.size, 1, none⟩ = some (.slice B3 ys.length d3)) (go_keep) (fail)
      obtain ⟨va7, vb7, ga7, gb7, ow7, bel7⟩ := plays_set (z' := z) VA6.out VB6.out Ga6.out Gb6.out OW6.out BEL6.out
      have sz7 : w.heap.size + 2 ≤ ((((w4.setCell ⟨w.heap.size, 0, none⟩ (.int .i64 z)).setCell ⟨w.heap.size, 1, none⟩ (.slice A2 ys.length c2)).setCell ⟨w.heap.size + 1, 0, none⟩ (.int .i64 z)).setCell ⟨w.heap.size + 1, 1, none⟩ (.slice B3 ys.length d3)).drew.heap.size := by
        have := vb7.lt
        omega
      generalize ((((w4.setCell ⟨w.heap.size, 0, none⟩ (.int .i64 z)).setCell ⟨w.heap.size, 1, none⟩ (.slice A2 ys.length c2)).setCell ⟨w.heap.size + 1, 0, none⟩ (.int .i64 z)).setCell ⟨w.heap.size + 1, 1, none⟩ (.slice B3 ys.length d3)).drew = w7 at va7 vb7 ga7 gb7 ow7 bel7 sz7 ⊢
      clear a0 a1 b0 b1' ha0 ha1 hb0 hb1' fa0 fa1 fb0 fb1 ne1 ne2 ne3 ne4 VA6 VB6 Va6 Vb6 Ga6 Gb6 OW6 BEL6 e2a e2b
      have VA7 := Lib.hid va7
      have VB7 := Lib.hid vb7
      have GA7 := Lib.hid ga7
      have GB7 := Lib.hid gb7
      have OW7 := Lib.hid ow7
      have BEL7 := Lib.hid bel7
      have a0 := va7.c0
      have a1 := va7.c1
      have la7 := va7.lt
      clear va7 vb7 ga7 gb7 ow7 bel7
      have wN : IntKind.i64.wrap ((N : Int) + 1) = (N : Int) + 1 := i64_id (by omega) (by omega)
      have ocd : cd = 0 ∨ ((cd == 0) = false ∧ cd ≠ 0) := by
        by_cases h : cd = 0
        · exact .inl h
        · exact .inr ⟨by simpa using h, h⟩
      rcases ocd with ocd | ⟨ocd, ocd'⟩
      · have HY : Hid (os.length + ys.length = N + 1) := Lib.hid (by have := HC0.out ocd; have := HN.out; omega)
        have hN1 : N + 1 ≤ j + 1 := by omega
        subst ocd
        by_cases hj1 : j < n1
        · obtain ⟨b2, o2, yy, hA1, hb2, hy, hcy⟩ := H'.out.at_ j hj1
          subst hA1
          have hcy := (BEL7.out.cell (p := ⟨b2, o2 + j, none⟩) hb2).trans hcy
          have l3 : (j : Int) < (n1 : Int) := by omega
          clear hy
          rcases Nat.eq_zero_or_pos ys.length with h0 | h0
          · obtain rfl : ys = [] := List.eq_nil_of_length_eq_zero h0
            clear h0
            simp only [List.length_nil] at a1 VA7 VB7 GA7 GB7
            go_wp2_with fail
            · refine (seal_none z A2 c2 w7 GA7.out OK2.out).mono ?_
              rintro e w8 ⟨A8, c8, B8, e8, rfl, g8, l8, hb⟩
              simp only [List.length_nil] at g8 l8 ⊢
              have VA8 := Lib.hid (VA7.out.keep hb)
              have VB8 := Lib.hid (VB7.out.keep hb)
              have GB8 := Lib.hid (GB7.out.after hb)
              have OW8 := Lib.hid (OW7.out.below hb)
              have BEL8 := Lib.hid (below_after BEL7.out hb BEL7.out.size)
              have s78 := hb.size
              have e8a : w.heap.size + 2 ≤ w8.heap.size := by omega
              clear hb a0 a1 la7 s78
              have b0 := VB8.out.c0
              have b1' := VB8.out.c1
              have lb8 := VB8.out.lt
              go_wp2_with fail
              have VA9 : Hid (Var (w8.alloc (.cells #[.int .i64 z, .slice A8 0 c8] 25)) w.heap.size z A2 0 c2) := Lib.hid (VA8.out.alloc _)
              have VB9 : Hid (Var (w8.alloc (.cells #[.int .i64 z, .slice A8 0 c8] 25)) (w.heap.size + 1) z B3 0 d3) := Lib.hid (VB8.out.alloc _)
              have Vc9 : Hid (Var (w8.alloc (.cells #[.int .i64 z, .slice A8 0 c8] 25)) w8.heap.size z A8 0 c8) := Lib.hid (Var.new _ _ _ _ _)
              have GB9 : Hid (GotS (w8.alloc (.cells #[.int .i64 z, .slice A8 0 c8] 25)) 0 [] B3 d3) := Lib.hid (GB8.out.after (below_alloc _ _))
              have G89 : Hid (GotS (w8.alloc (.cells #[.int .i64 z, .slice A8 0 c8] 25)) 0 [] A8 c8) := Lib.hid (g8.after (below_alloc _ _))
              have L89 : Hid (GotS (w8.alloc (.cells #[.int .i64 z, .slice A8 0 c8] 25)) 0 [] B8 e8) := Lib.hid (l8.after (below_alloc _ _))
              have OW9 : Hid (Own (w8.alloc (.cells #[.int .i64 z, .slice A8 0 c8] 25)) (w.heap.size + 2) 30 2 vo os.length (os.flatMap Smp.enc)) := Lib.hid (OW8.out.alloc _)
              have BEL9 : Hid (Below w.heap.size w (w8.alloc (.cells #[.int .i64 z, .slice A8 0 c8] 25))) := Lib.hid (BEL8.out.alloc BEL8.out.size _)
              clear VA8 VB8 GB8 OW8 BEL8 g8 l8 b0 b1' lb8
              generalize (w8.alloc (.cells #[.int .i64 z, .slice A8 0 c8] 25)) = wd at VA9 VB9 Vc9 GB9 G89 L89 OW9 BEL9 ⊢
              refine (refSeal_none z B3 d3 _ GB9.out OK2.out).mono ?_
              rintro e w9 ⟨A9, c9, B9, e9, rfl, g9, _, hb⟩
              simp only [List.length_nil] at g9 ⊢
              have VA10 := Lib.hid (VA9.out.keep hb)
              have VB10 := Lib.hid (VB9.out.keep hb)
              have Vc10 := Lib.hid (Vc9.out.keep hb)
              have G810 := Lib.hid (G89.out.after hb)
              have L810 := Lib.hid (L89.out.after hb)
              have OW10 := Lib.hid (OW9.out.below hb)
              have BEL10 := Lib.hid (below_after BEL9.out hb BEL9.out.size)
              clear hb VA9 VB9 Vc9 GB9 G89 L89 OW9 BEL9
              have a0 := Vc10.out.c0
              have a1 := Vc10.out.c1
              have la10 := Vc10.out.lt
              have e9a : w8.heap.size < w9.heap.size := la10
              go_wp2_with fail
              have VA11 : Hid (Var (w9.alloc (.cells #[.int .i64 z, .slice A9 0 c9] 25)) w.heap.size z A2 0 c2) := Lib.hid (VA10.out.alloc _)
              have VB11 : Hid (Var (w9.alloc (.cells #[.int .i64 z, .slice A9 0 c9] 25)) (w.heap.size + 1) z B3 0 d3) := Lib.hid (VB10.out.alloc _)
              have Vc11 : Hid (Var (w9.alloc (.cells #[.int .i64 z, .slice A9 0 c9] 25)) w8.heap.size z A8 0 c8) := Lib.hid (Vc10.out.alloc _)
              have Vd11 : Hid (Var (w9.alloc (.cells #[.int .i64 z, .slice A9 0 c9] 25)) w9.heap.size z A9 0 c9) := Lib.hid (Var.new _ _ _ _ _)
              have G811 : Hid (GotS (w9.alloc (.cells #[.int .i64 z, .slice A9 0 c9] 25)) 0 [] A8 c8) := Lib.hid (G810.out.after (below_alloc _ _))
              have G911 : Hid (GotS (w9.alloc (.cells #[.int .i64 z, .slice A9 0 c9] 25)) 0 [] A9 c9) := Lib.hid (g9.after (below_alloc _ _))
              have L811 : Hid (GotS (w9.alloc (.cells #[.int .i64 z, .slice A9 0 c9] 25)) 0 [] B8 e8) := Lib.hid (L810.out.after (below_alloc _ _))
              have OW11 : Hid (Own (w9.alloc (.cells #[.int .i64 z, .slice A9 0 c9] 25)) (w.heap.size + 2) 30 2 vo os.length (os.flatMap Smp.enc)) := Lib.hid (OW10.out.alloc _)
              have BEL11 : Hid (Below w.heap.size w (w9.alloc (.cells #[.int .i64 z, .slice A9 0 c9] 25))) := Lib.hid (BEL10.out.alloc BEL10.out.size _)
              clear VA10 VB10 Vc10 G810 L810 OW10 BEL10 g9 a0 a1 la10
              generalize (w9.alloc (.cells #[.int .i64 z, .slice A9 0 c9] 25)) = we at VA11 VB11 Vc11 Vd11 G811 G911 L811 OW11 BEL11 ⊢
              refine (lawSame_any z A8 A9 0 c8 c9 [] _ G811.out.rd G911.out.rd (by omega)).mono ?_
              rintro e w10 ⟨rfl, hb⟩
              have VA12 := Lib.hid (VA11.out.keep hb)
              have VB12 := Lib.hid (VB11.out.keep hb)
              have Vc12 := Lib.hid (Vc11.out.keep hb)
              have Vd12 := Lib.hid (Vd11.out.keep hb)
              have G812 := Lib.hid (G811.out.after hb)
              have G912 := Lib.hid (G911.out.after hb)
              have L812 := Lib.hid (L811.out.after hb)
              have OW12 := Lib.hid (OW11.out.below hb)
              have BEL12 := Lib.hid (below_after BEL11.out hb BEL11.out.size)
              clear hb VA11 VB11 Vc11 Vd11 G811 G911 L811 OW11 BEL11
              have a0 := Vc12.out.c0
              have a1 := Vc12.out.c1
              have b0 := Vd12.out.c0
              have b1' := Vd12.out.c1
              have ha0 := VA12.out.c0
              have ha1 := VA12.out.c1
              have hb0 := VB12.out.c0
              have hb1' := VB12.out.c1
              have fa0 := VA12.out.f 0
              have fa1 := VA12.out.f 1
              have fb0 := VB12.out.f 0
              have fb1 := VB12.out.f 1
              go_wp2_with fail
              have ne1 : ¬ w.heap.size = w8.heap.size := by omega
              have ne2 : ¬ w.heap.size = w9.heap.size := by omega
              have ne3 : ¬ w.heap.size + 1 = w8.heap.size := by omega
              have ne4 : ¬ w.heap.size + 1 = w9.heap.size := by omega
              go_region_held3 (fun w' => w'.cell? ⟨w8.heap.size, 0, none⟩ = some (.int .i64 z) ∧ w'.cell? ⟨w8.heap.size, 1, none⟩ = some (.slice A8 0 c8) ∧ w'.cell? ⟨w9.heap.size, 0, none⟩ = some (.int .i64 z) ∧ w'.cell? ⟨w9.heap.size, 1, none⟩ = some (.slice A9 0 c9)) (go_keep) (fail)
              obtain ⟨va13, vb13, ga13, gb13, ow13, bel13⟩ := plays_set (z' := z) VA12.out VB12.out G812.out G912.out OW12.out BEL12.out
              have l13 : GotS ((((w10.setCell ⟨w.heap.size, 0, none⟩ (.int .i64 z)).setCell ⟨w.heap.size, 1, none⟩ (.slice A8 0 c8)).setCell ⟨w.heap.size + 1, 0, none⟩ (.int .i64 z)).setCell ⟨w.heap.size + 1, 1, none⟩ (.slice A9 0 c9)).drew 0 [] B8 e8 :=
                ((L812.out.set VA12.out z A8 0 c8).set (((VA12.out.set z A8 0 c8).2 _ (by omega)).trans VB12.out : Var _ (w.heap.size + 1) z B3 0 d3) z A9 0 c9).after (Below.refl _ _).drew
              generalize ((((w10.setCell ⟨w.heap.size, 0, none⟩ (.int .i64 z)).setCell ⟨w.heap.size, 1, none⟩ (.slice A8 0 c8)).setCell ⟨w.heap.size + 1, 0, none⟩ (.int .i64 z)).setCell ⟨w.heap.size + 1, 1, none⟩ (.slice A9 0 c9)).drew = w13 at va13 vb13 ga13 gb13 ow13 bel13 l13 ⊢
              clear a0 a1 b0 b1' ha0 ha1 hb0 hb1' fa0 fa1 fb0 fb1 ne1 ne2 ne3 ne4 VA12 VB12 Vc12 Vd12 G812 G912 L812 OW12 BEL12 e8a e9a
              have VA13 := Lib.hid va13
              have VB13 := Lib.hid vb13
              have GA13 := Lib.hid ga13
              have GB13 := Lib.hid gb13
              have OW13 := Lib.hid ow13
              have BEL13 := Lib.hid bel13
              have LL13 := Lib.hid l13
              have sz13 : w.heap.size + 2 ≤ w13.heap.size := by have := vb13.lt; omega
              have osm : os.length ≤ 101 := by have := HY.out; omega
              obtain ⟨i0, hi, hz0, hz1, hzb⟩ := info_parts smp_info
              have I1 := Lib.hid hi
              have I2 := Lib.hid hz0
              have I3 := Lib.hid hz1
              have I4 := Lib.hid hzb
              clear hi hz0 hz1 hzb va13 vb13 ga13 gb13 ow13 bel13 l13
              go_wp2_with (at_builtin; refine wpList_append_rd _ rfl (.tmp 144) (.tmp 145) 23 rfl (w.heap.size + 2) 30 i0 _ 2 16 Try.underlying23 I1.out I2.out I3.out I4.out rfl (by decide) vo os.length _ rfl OW13.out _ B8 0 e8 (([] : List Smp).flatMap Smp.enc) rfl LL13.out.rd.2 (fun h => (LL13.out.nil h).2) (enc_one _) (by simp only [maxLen]; omega) (by omega) sz13 ?_; intro v14 w14 own14 g14 at14)
              have FIN : Hid (PlaysAt w (N + 1) v14 w14) := Lib.hid (by
                have nb : ∀ g, g < w.heap.size + 2 → w14.heap[g]? = w13.heap[g]? := fun g hg => g14.block g (by omega) (fun e => by have := (OW13.out.block g e.symm).1; omega)
                refine ⟨z, [], os ++ [], A8, c8, A9, c9, (nb _ (by omega)).trans VA13.out, GA13.out.zero, (nb _ (by omega)).trans VB13.out, GB13.out.zero, Ok.nil (by omega) (by omega), ?_, ?_, ?_, ?_, BEL13.out.grown g14 BEL13.out.size (fun g hg => by have := (OW13.out.block g hg).1; omega), Nat.le_trans sz13 g14.size⟩
                · rw [List.length_append, List.flatMap_append]; exact own14
                · rw [List.append_nil]; exact OR.out
                · rw [List.append_nil]; exact OZ.out
                · have := HY.out; simpa using this)
              clear own14 g14 at14
              go_roundg (100 - (j + 1))
              case measure => omega
              case rel => exact ⟨j + 1, N + 1, _, by omega, by omega, hN1, by omega, by go_num, by go_num, rfl, FIN⟩

            · go_roundg (100 - (j + 1))
              case measure => omega
              case rel => exact ⟨j + 1, N + 1, _, by omega, by omega, hN1, by omega, by go_num, by go_num, rfl, z, [], os, A2, c2, B3, d3, VA7.out, GA7.out, VB7.out, GB7.out, OK2.out, OW7.out, OR.out, OZ.out, HY.out, BEL7.out, sz7⟩

          · obtain ⟨y, hy⟩ : ∃ y, ys[ys.length - 1]? = some y := ⟨_, List.getElem?_eq_getElem (Nat.sub_lt h0 (by decide))⟩
            have y0 := OK2.out.lo y (List.mem_of_getElem? hy)
            have y1 := OK2.out.hi y (List.mem_of_getElem? hy)
            have HY2 := Lib.hid hy
            clear hy
            go_wp2_with fail
            · refine (seal_some z A2 ys.length c2 ys y w7 GA7.out OK2.out HY2.out h0).mono ?_
              rintro e w8 ⟨A8, c8, B8, e8, rfl, g8, l8, hb⟩
              simp only [List.length_nil] at g8 l8 ⊢
              have VA8 := Lib.hid (VA7.out.keep hb)
              have VB8 := Lib.hid (VB7.out.keep hb)
              have GB8 := Lib.hid (GB7.out.after hb)
              have OW8 := Lib.hid (OW7.out.below hb)
              have BEL8 := Lib.hid (below_after BEL7.out hb BEL7.out.size)
              have s78 := hb.size
              have e8a : w.heap.size + 2 ≤ w8.heap.size := by omega
              clear hb a0 a1 la7 s78
              have b0 := VB8.out.c0
              have b1' := VB8.out.c1
              have lb8 := VB8.out.lt
              go_wp2_with fail
              have VA9 : Hid (Var (w8.alloc (.cells #[.int .i64 (y.t + 1), .slice A8 0 c8] 25)) w.heap.size z A2 ys.length c2) := Lib.hid (VA8.out.alloc _)
              have VB9 : Hid (Var (w8.alloc (.cells #[.int .i64 (y.t + 1), .slice A8 0 c8] 25)) (w.heap.size + 1) z B3 ys.length d3) := Lib.hid (VB8.out.alloc _)
              have Vc9 : Hid (Var (w8.alloc (.cells #[.int .i64 (y.t + 1), .slice A8 0 c8] 25)) w8.heap.size (y.t + 1) A8 0 c8) := Lib.hid (Var.new _ _ _ _ _)
              have GB9 : Hid (GotS (w8.alloc (.cells #[.int .i64 (y.t + 1), .slice A8 0 c8] 25)) ys.length ys B3 d3) := Lib.hid (GB8.out.after (below_alloc _ _))
              have G89 : Hid (GotS (w8.alloc (.cells #[.int .i64 (y.t + 1), .slice A8 0 c8] 25)) 0 [] A8 c8) := Lib.hid (g8.after (below_alloc _ _))
              have L89 : Hid (GotS (w8.alloc (.cells #[.int .i64 (y.t + 1), .slice A8 0 c8] 25)) ys.length ys B8 e8) := Lib.hid (l8.after (below_alloc _ _))
              have OW9 : Hid (Own (w8.alloc (.cells #[.int .i64 (y.t + 1), .slice A8 0 c8] 25)) (w.heap.size + 2) 30 2 vo os.length (os.flatMap Smp.enc)) := Lib.hid (OW8.out.alloc _)
              have BEL9 : Hid (Below w.heap.size w (w8.alloc (.cells #[.int .i64 (y.t + 1), .slice A8 0 c8] 25))) := Lib.hid (BEL8.out.alloc BEL8.out.size _)
              clear VA8 VB8 GB8 OW8 BEL8 g8 l8 b0 b1' lb8
              generalize (w8.alloc (.cells #[.int .i64 (y.t + 1), .slice A8 0 c8] 25)) = wd at VA9 VB9 Vc9 GB9 G89 L89 OW9 BEL9 ⊢
              refine (refSeal_some z B3 ys.length d3 ys y _ GB9.out OK2.out HY2.out h0).mono ?_
              rintro e w9 ⟨A9, c9, B9, e9, rfl, g9, _, hb⟩
              simp only [List.length_nil] at g9 ⊢
              have VA10 := Lib.hid (VA9.out.keep hb)
              have VB10 := Lib.hid (VB9.out.keep hb)
              have Vc10 := Lib.hid (Vc9.out.keep hb)
              have G810 := Lib.hid (G89.out.after hb)
              have L810 := Lib.hid (L89.out.after hb)
              have OW10 := Lib.hid (OW9.out.below hb)
              have BEL10 := Lib.hid (below_after BEL9.out hb BEL9.out.size)
              clear hb VA9 VB9 Vc9 GB9 G89 L89 OW9 BEL9
              have a0 := Vc10.out.c0
              have a1 := Vc10.out.c1
              have la10 := Vc10.out.lt
              have e9a : w8.heap.size < w9.heap.size := la10
              go_wp2_with fail
              have VA11 : Hid (Var (w9.alloc (.cells #[.int .i64 (y.t + 1), .slice A9 0 c9] 25)) w.heap.size z A2 ys.length c2) := Lib.hid (VA10.out.alloc _)
              have VB11 : Hid (Var (w9.alloc (.cells #[.int .i64 (y.t + 1), .slice A9 0 c9] 25)) (w.heap.size + 1) z B3 ys.length d3) := Lib.hid (VB10.out.alloc _)
              have Vc11 : Hid (Var (w9.alloc (.cells #[.int .i64 (y.t + 1), .slice A9 0 c9] 25)) w8.heap.size (y.t + 1) A8 0 c8) := Lib.hid (Vc10.out.alloc _)
              have Vd11 : Hid (Var (w9.alloc (.cells #[.int .i64 (y.t + 1), .slice A9 0 c9] 25)) w9.heap.size (y.t + 1) A9 0 c9) := Lib.hid (Var.new _ _ _ _ _)
              have G811 : Hid (GotS (w9.alloc (.cells #[.int .i64 (y.t + 1), .slice A9 0 c9] 25)) 0 [] A8 c8) := Lib.hid (G810.out.after (below_alloc _ _))
              have G911 : Hid (GotS (w9.alloc (.cells #[.int .i64 (y.t + 1), .slice A9 0 c9] 25)) 0 [] A9 c9) := Lib.hid (g9.after (below_alloc _ _))
              have L811 : Hid (GotS (w9.alloc (.cells #[.int .i64 (y.t + 1), .slice A9 0 c9] 25)) ys.length ys B8 e8) := Lib.hid (L810.out.after (below_alloc _ _))
              have OW11 : Hid (Own (w9.alloc (.cells #[.int .i64 (y.t + 1), .slice A9 0 c9] 25)) (w.heap.size + 2) 30 2 vo os.length (os.flatMap Smp.enc)) := Lib.hid (OW10.out.alloc _)
              have BEL11 : Hid (Below w.heap.size w (w9.alloc (.cells #[.int .i64 (y.t + 1), .slice A9 0 c9] 25))) := Lib.hid (BEL10.out.alloc BEL10.out.size _)
              clear VA10 VB10 Vc10 G810 L810 OW10 BEL10 g9 a0 a1 la10
              generalize (w9.alloc (.cells #[.int .i64 (y.t + 1), .slice A9 0 c9] 25)) = we at VA11 VB11 Vc11 Vd11 G811 G911 L811 OW11 BEL11 ⊢
              refine (lawSame_any (y.t + 1) A8 A9 0 c8 c9 [] _ G811.out.rd G911.out.rd (by omega)).mono ?_
              rintro e w10 ⟨rfl, hb⟩
              have VA12 := Lib.hid (VA11.out.keep hb)
              have VB12 := Lib.hid (VB11.out.keep hb)
              have Vc12 := Lib.hid (Vc11.out.keep hb)
              have Vd12 := Lib.hid (Vd11.out.keep hb)
              have G812 := Lib.hid (G811.out.after hb)
              have G912 := Lib.hid (G911.out.after hb)
              have L812 := Lib.hid (L811.out.after hb)
              have OW12 := Lib.hid (OW11.out.below hb)
              have BEL12 := Lib.hid (below_after BEL11.out hb BEL11.out.size)
              clear hb VA11 VB11 Vc11 Vd11 G811 G911 L811 OW11 BEL11
              have a0 := Vc12.out.c0
              have a1 := Vc12.out.c1
              have b0 := Vd12.out.c0
              have b1' := Vd12.out.c1
              have ha0 := VA12.out.c0
              have ha1 := VA12.out.c1
              have hb0 := VB12.out.c0
              have hb1' := VB12.out.c1
              have fa0 := VA12.out.f 0
              have fa1 := VA12.out.f 1
              have fb0 := VB12.out.f 0
              have fb1 := VB12.out.f 1
              obtain ⟨lb, lo, y', hlB, hlb, hly, ly⟩ := L812.out.rd.at_ (ys.length - 1) (by omega)
              obtain rfl : y = y' := by rw [HY2.out] at hly; exact Option.some.inj hly
              subst hlB
              have lp := ly.c0
              have t0 : ((ys.length : Int) == 0) = false := by rw [beq_eq_false_iff_ne]; omega
              have t1 : IntKind.i64.wrap ((ys.length : Int) - 1) = (ys.length : Int) - 1 := i64_id (by omega) (by omega)
              have t2 : ((ys.length : Int) - 1).toNat = ys.length - 1 := by omega
              have t3 : 0 ≤ (ys.length : Int) - 1 := by omega
              have t4 : (ys.length : Int) - 1 < (ys.length : Int) := by omega
              have t5 : (1 : Int) ≤ (ys.length : Int) := by omega
              have t6 : IntKind.i64.wrap (y.t + 1 - 1) = y.t := by rw [show y.t + 1 - 1 = y.t by omega]; exact i64_id (by omega) (by omega)
              clear ly hly
              go_wp2_with fail
              clear lp t0 t1 t2 t3 t4 t5 t6
              have ne1 : ¬ w.heap.size = w8.heap.size := by omega
              have ne2 : ¬ w.heap.size = w9.heap.size := by omega
              have ne3 : ¬ w.heap.size + 1 = w8.heap.size := by omega
              have ne4 : ¬ w.heap.size + 1 = w9.heap.size := by omega
              go_region_held3 (fun w' => w'.cell? ⟨w8.heap.size, 0, none⟩ = some (.int .i64 (y.t + 1)) ∧ w'.cell? ⟨w8.heap.size, 1, none⟩ = some (.slice A8 0 c8) ∧ w'.cell? ⟨w9.heap.size, 0, none⟩ = some (.int .i64 (y.t + 1)) ∧ w'.cell? ⟨w9.heap.size, 1, none⟩ = some (.slice A9 0 c9)) (go_keep) (fail)
              obtain ⟨va13, vb13, ga13, gb13, ow13, bel13⟩ := plays_set (z' := (y.t + 1)) VA12.out VB12.out G812.out G912.out OW12.out BEL12.out
              have l13 : GotS ((((w10.setCell ⟨w.heap.size, 0, none⟩ (.int .i64 (y.t + 1))).setCell ⟨w.heap.size, 1, none⟩ (.slice A8 0 c8)).setCell ⟨w.heap.size + 1, 0, none⟩ (.int .i64 (y.t + 1))).setCell ⟨w.heap.size + 1, 1, none⟩ (.slice A9 0 c9)).drew ys.length ys (some ⟨lb, lo, none⟩) e8 :=
                ((L812.out.set VA12.out (y.t + 1) A8 0 c8).set (((VA12.out.set (y.t + 1) A8 0 c8).2 _ (by omega)).trans VB12.out : Var _ (w.heap.size + 1) z B3 ys.length d3) (y.t + 1) A9 0 c9).after (Below.refl _ _).drew
              generalize ((((w10.setCell ⟨w.heap.size, 0, none⟩ (.int .i64 (y.t + 1))).setCell ⟨w.heap.size, 1, none⟩ (.slice A8 0 c8)).setCell ⟨w.heap.size + 1, 0, none⟩ (.int .i64 (y.t + 1))).setCell ⟨w.heap.size + 1, 1, none⟩ (.slice A9 0 c9)).drew = w13 at va13 vb13 ga13 gb13 ow13 bel13 l13 ⊢
              clear a0 a1 b0 b1' ha0 ha1 hb0 hb1' fa0 fa1 fb0 fb1 ne1 ne2 ne3 ne4 VA12 VB12 Vc12 Vd12 G812 G912 L812 OW12 BEL12 e8a e9a
              have VA13 := Lib.hid va13
              have VB13 := Lib.hid vb13
              have GA13 := Lib.hid ga13
              have GB13 := Lib.hid gb13
              have OW13 := Lib.hid ow13
              have BEL13 := Lib.hid bel13
              have LL13 := Lib.hid l13
              have sz13 : w.heap.size + 2 ≤ w13.heap.size := by have := vb13.lt; omega
              have osm : os.length ≤ 101 := by have := HY.out; omega
              obtain ⟨i0, hi, hz0, hz1, hzb⟩ := info_parts smp_info
              have I1 := Lib.hid hi
              have I2 := Lib.hid hz0
              have I3 := Lib.hid hz1
              have I4 := Lib.hid hzb
              clear hi hz0 hz1 hzb va13 vb13 ga13 gb13 ow13 bel13 l13
              go_wp2_with (at_builtin; refine wpList_append_rd _ rfl (.tmp 144) (.tmp 145) 23 rfl (w.heap.size + 2) 30 i0 _ 2 16 Try.underlying23 I1.out I2.out I3.out I4.out rfl (by decide) vo os.length _ rfl OW13.out _ (some ⟨lb, lo, none⟩) ys.length e8 (ys.flatMap Smp.enc) rfl LL13.out.rd.2 (fun h => (LL13.out.nil h).2) (enc_one _) (by simp only [maxLen]; omega) (by omega) sz13 ?_; intro v14 w14 own14 g14 at14)
              have FIN : Hid (PlaysAt w (N + 1) v14 w14) := Lib.hid (by
                have nb : ∀ g, g < w.heap.size + 2 → w14.heap[g]? = w13.heap[g]? := fun g hg => g14.block g (by omega) (fun e => by have := (OW13.out.block g e.symm).1; omega)
                refine ⟨(y.t + 1), [], os ++ ys, A8, c8, A9, c9, (nb _ (by omega)).trans VA13.out, GA13.out.zero, (nb _ (by omega)).trans VB13.out, GB13.out.zero, Ok.nil (by omega) (by omega), ?_, ?_, ?_, ?_, BEL13.out.grown g14 BEL13.out.size (fun g hg => by have := (OW13.out.block g hg).1; omega), Nat.le_trans sz13 g14.size⟩
                · rw [List.length_append, List.flatMap_append]; exact own14
                · exact List.pairwise_append.2 ⟨OR.out, OK2.out.rise, fun a ha b hb => by have := OZ.out a ha; have := OK2.out.lo b hb; omega⟩
                · intro a ha; have hl := last_lt OK2.out HY2.out; rcases List.mem_append.1 ha with ha | ha; (· have := OZ.out a ha; have := OK2.out.lo y (List.mem_of_getElem? HY2.out); omega); (· have := hl a ha; omega)
                · rw [List.length_append]; have := HY.out; simp; omega)
              clear own14 g14 at14
              go_roundg (100 - (j + 1))
              case measure => omega
              case rel => exact ⟨j + 1, N + 1, _, by omega, by omega, hN1, by omega, by go_num, by go_num, rfl, FIN⟩

            · go_roundg (100 - (j + 1))
              case measure => omega
              case rel => exact ⟨j + 1, N + 1, _, by omega, by omega, hN1, by omega, by go_num, by go_num, rfl, z, ys, os, A2, c2, B3, d3, VA7.out, GA7.out, VB7.out, GB7.out, OK2.out, OW7.out, OR.out, OZ.out, HY.out, BEL7.out, sz7⟩


        · have l3 : ¬ (j : Int) < (n1 : Int) := by omega
          go_wp2_with fail
          go_roundg (100 - (j + 1))
          case measure => omega
          case rel => exact ⟨j + 1, N + 1, _, by omega, by omega, hN1, by omega, by go_num, by go_num, rfl, z, ys, os, A2, c2, B3, d3, VA7.out, GA7.out, VB7.out, GB7.out, OK2.out, OW7.out, OR.out, OZ.out, HY.out, BEL7.out, sz7⟩

      · have HY : Hid (os.length + ys.length = N) := Lib.hid (by rw [HC1.out ocd']; exact HN.out)
        have hN1 : N ≤ j + 1 := by omega
        clear ocd'
        by_cases hj1 : j < n1
        · obtain ⟨b2, o2, yy, hA1, hb2, hy, hcy⟩ := H'.out.at_ j hj1
          subst hA1
          have hcy := (BEL7.out.cell (p := ⟨b2, o2 + j, none⟩) hb2).trans hcy
          have l3 : (j : Int) < (n1 : Int) := by omega
          clear hy
          rcases Nat.eq_zero_or_pos ys.length with h0 | h0
          · obtain rfl : ys = [] := List.eq_nil_of_length_eq_zero h0
            clear h0
            simp only [List.length_nil] at a1 VA7 VB7 GA7 GB7
            go_wp2_with fail
            · refine (seal_none z A2 c2 w7 GA7.out OK2.out).mono ?_
              rintro e w8 ⟨A8, c8, B8, e8, rfl, g8, l8, hb⟩
              simp only [List.length_nil] at g8 l8 ⊢
              have VA8 := Lib.hid (VA7.out.keep hb)
              have VB8 := Lib.hid (VB7.out.keep hb)
              have GB8 := Lib.hid (GB7.out.after hb)
              have OW8 := Lib.hid (OW7.out.below hb)
              have BEL8 := Lib.hid (below_after BEL7.out hb BEL7.out.size)
              have s78 := hb.size
              have e8a : w.heap.size + 2 ≤ w8.heap.size := by omega
              clear hb a0 a1 la7 s78
              have b0 := VB8.out.c0
              have b1' := VB8.out.c1
              have lb8 := VB8.out.lt
              go_wp2_with fail
              have VA9 : Hid (Var (w8.alloc (.cells #[.int .i64 z, .slice A8 0 c8] 25)) w.heap.size z A2 0 c2) := Lib.hid (VA8.out.alloc _)
              have VB9 : Hid (Var (w8.alloc (.cells #[.int .i64 z, .slice A8 0 c8] 25)) (w.heap.size + 1) z B3 0 d3) := Lib.hid (VB8.out.alloc _)
              have Vc9 : Hid (Var (w8.alloc (.cells #[.int .i64 z, .slice A8 0 c8] 25)) w8.heap.size z A8 0 c8) := Lib.hid (Var.new _ _ _ _ _)
              have GB9 : Hid (GotS (w8.alloc (.cells #[.int .i64 z, .slice A8 0 c8] 25)) 0 [] B3 d3) := Lib.hid (GB8.out.after (below_alloc _ _))
              have G89 : Hid (GotS (w8.alloc (.cells #[.int .i64 z, .slice A8 0 c8] 25)) 0 [] A8 c8) := Lib.hid (g8.after (below_alloc _ _))
              have L89 : Hid (GotS (w8.alloc (.cells #[.int .i64 z, .slice A8 0 c8] 25)) 0 [] B8 e8) := Lib.hid (l8.after (below_alloc _ _))
              have OW9 : Hid (Own (w8.alloc (.cells #[.int .i64 z, .slice A8 0 c8] 25)) (w.heap.size + 2) 30 2 vo os.length (os.flatMap Smp.enc)) := Lib.hid (OW8.out.alloc _)
              have BEL9 : Hid (Below w.heap.size w (w8.alloc (.cells #[.int .i64 z, .slice A8 0 c8] 25))) := Lib.hid (BEL8.out.alloc BEL8.out.size _)
              clear VA8 VB8 GB8 OW8 BEL8 g8 l8 b0 b1' lb8
              generalize (w8.alloc (.cells #[.int .i64 z, .slice A8 0 c8] 25)) = wd at VA9 VB9 Vc9 GB9 G89 L89 OW9 BEL9 ⊢
              refine (refSeal_none z B3 d3 _ GB9.out OK2.out).mono ?_
              rintro e w9 ⟨A9, c9, B9, e9, rfl, g9, _, hb⟩
              simp only [List.length_nil] at g9 ⊢
              have VA10 := Lib.hid (VA9.out.keep hb)
              have VB10 := Lib.hid (VB9.out.keep hb)
              have Vc10 := Lib.hid (Vc9.out.keep hb)
              have G810 := Lib.hid (G89.out.after hb)
              have L810 := Lib.hid (L89.out.after hb)
              have OW10 := Lib.hid (OW9.out.below hb)
              have BEL10 := Lib.hid (below_after BEL9.out hb BEL9.out.size)
              clear hb VA9 VB9 Vc9 GB9 G89 L89 OW9 BEL9
              have a0 := Vc10.out.c0
              have a1 := Vc10.out.c1
              have la10 := Vc10.out.lt
              have e9a : w8.heap.size < w9.heap.size := la10
              go_wp2_with fail
              have VA11 : Hid (Var (w9.alloc (.cells #[.int .i64 z, .slice A9 0 c9] 25)) w.heap.size z A2 0 c2) := Lib.hid (VA10.out.alloc _)
              have VB11 : Hid (Var (w9.alloc (.cells #[.int .i64 z, .slice A9 0 c9] 25)) (w.heap.size + 1) z B3 0 d3) := Lib.hid (VB10.out.alloc _)
              have Vc11 : Hid (Var (w9.alloc (.cells #[.int .i64 z, .slice A9 0 c9] 25)) w8.heap.size z A8 0 c8) := Lib.hid (Vc10.out.alloc _)
              have Vd11 : Hid (Var (w9.alloc (.cells #[.int .i64 z, .slice A9 0 c9] 25)) w9.heap.size z A9 0 c9) := Lib.hid (Var.new _ _ _ _ _)
              have G811 : Hid (GotS (w9.alloc (.cells #[.int .i64 z, .slice A9 0 c9] 25)) 0 [] A8 c8) := Lib.hid (G810.out.after (below_alloc _ _))
              have G911 : Hid (GotS (w9.alloc (.cells #[.int .i64 z, .slice A9 0 c9] 25)) 0 [] A9 c9) := Lib.hid (g9.after (below_alloc _ _))
              have L811 : Hid (GotS (w9.alloc (.cells #[.int .i64 z, .slice A9 0 c9] 25)) 0 [] B8 e8) := Lib.hid (L810.out.after (below_alloc _ _))
              have OW11 : Hid (Own (w9.alloc (.cells #[.int .i64 z, .slice A9 0 c9] 25)) (w.heap.size + 2) 30 2 vo os.length (os.flatMap Smp.enc)) := Lib.hid (OW10.out.alloc _)
              have BEL11 : Hid (Below w.heap.size w (w9.alloc (.cells #[.int .i64 z, .slice A9 0 c9] 25))) := Lib.hid (BEL10.out.alloc BEL10.out.size _)
              clear VA10 VB10 Vc10 G810 L810 OW10 BEL10 g9 a0 a1 la10
              generalize (w9.alloc (.cells #[.int .i64 z, .slice A9 0 c9] 25)) = we at VA11 VB11 Vc11 Vd11 G811 G911 L811 OW11 BEL11 ⊢
              refine (lawSame_any z A8 A9 0 c8 c9 [] _ G811.out.rd G911.out.rd (by omega)).mono ?_
              rintro e w10 ⟨rfl, hb⟩
              have VA12 := Lib.hid (VA11.out.keep hb)
              have VB12 := Lib.hid (VB11.out.keep hb)
              have Vc12 := Lib.hid (Vc11.out.keep hb)
              have Vd12 := Lib.hid (Vd11.out.keep hb)
              have G812 := Lib.hid (G811.out.after hb)
              have G912 := Lib.hid (G911.out.after hb)
              have L812 := Lib.hid (L811.out.after hb)
              have OW12 := Lib.hid (OW11.out.below hb)
              have BEL12 := Lib.hid (below_after BEL11.out hb BEL11.out.size)
              clear hb VA11 VB11 Vc11 Vd11 G811 G911 L811 OW11 BEL11
              have a0 := Vc12.out.c0
              have a1 := Vc12.out.c1
              have b0 := Vd12.out.c0
              have b1' := Vd12.out.c1
              have ha0 := VA12.out.c0
              have ha1 := VA12.out.c1
              have hb0 := VB12.out.c0
              have hb1' := VB12.out.c1
              have fa0 := VA12.out.f 0
              have fa1 := VA12.out.f 1
              have fb0 := VB12.out.f 0
              have fb1 := VB12.out.f 1
              go_wp2_with fail
              have ne1 : ¬ w.heap.size = w8.heap.size := by omega
              have ne2 : ¬ w.heap.size = w9.heap.size := by omega
              have ne3 : ¬ w.heap.size + 1 = w8.heap.size := by omega
              have ne4 : ¬ w.heap.size + 1 = w9.heap.size := by omega
              go_region_held3 (fun w' => w'.cell? ⟨w8.heap.size, 0, none⟩ = some (.int .i64 z) ∧ w'.cell? ⟨w8.heap.size, 1, none⟩ = some (.slice A8 0 c8) ∧ w'.cell? ⟨w9.heap.size, 0, none⟩ = some (.int .i64 z) ∧ w'.cell? ⟨w9.heap.size, 1, none⟩ = some (.slice A9 0 c9)) (go_keep) (fail)
              obtain ⟨va13, vb13, ga13, gb13, ow13, bel13⟩ := plays_set (z' := z) VA12.out VB12.out G812.out G912.out OW12.out BEL12.out
              have l13 : GotS ((((w10.setCell ⟨w.heap.size, 0, none⟩ (.int .i64 z)).setCell ⟨w.heap.size, 1, none⟩ (.slice A8 0 c8)).setCell ⟨w.heap.size + 1, 0, none⟩ (.int .i64 z)).setCell ⟨w.heap.size + 1, 1, none⟩ (.slice A9 0 c9)).drew 0 [] B8 e8 :=
                ((L812.out.set VA12.out z A8 0 c8).set (((VA12.out.set z A8 0 c8).2 _ (by omega)).trans VB12.out : Var _ (w.heap.size + 1) z B3 0 d3) z A9 0 c9).after (Below.refl _ _).drew
              generalize ((((w10.setCell ⟨w.heap.size, 0, none⟩ (.int .i64 z)).setCell ⟨w.heap.size, 1, none⟩ (.slice A8 0 c8)).setCell ⟨w.heap.size + 1, 0, none⟩ (.int .i64 z)).setCell ⟨w.heap.size + 1, 1, none⟩ (.slice A9 0 c9)).drew = w13 at va13 vb13 ga13 gb13 ow13 bel13 l13 ⊢
              clear a0 a1 b0 b1' ha0 ha1 hb0 hb1' fa0 fa1 fb0 fb1 ne1 ne2 ne3 ne4 VA12 VB12 Vc12 Vd12 G812 G912 L812 OW12 BEL12 e8a e9a
              have VA13 := Lib.hid va13
              have VB13 := Lib.hid vb13
              have GA13 := Lib.hid ga13
              have GB13 := Lib.hid gb13
              have OW13 := Lib.hid ow13
              have BEL13 := Lib.hid bel13
              have LL13 := Lib.hid l13
              have sz13 : w.heap.size + 2 ≤ w13.heap.size := by have := vb13.lt; omega
              have osm : os.length ≤ 101 := by have := HY.out; omega
              obtain ⟨i0, hi, hz0, hz1, hzb⟩ := info_parts smp_info
              have I1 := Lib.hid hi
              have I2 := Lib.hid hz0
              have I3 := Lib.hid hz1
              have I4 := Lib.hid hzb
              clear hi hz0 hz1 hzb va13 vb13 ga13 gb13 ow13 bel13 l13
              go_wp2_with (at_builtin; refine wpList_append_rd _ rfl (.tmp 144) (.tmp 145) 23 rfl (w.heap.size + 2) 30 i0 _ 2 16 Try.underlying23 I1.out I2.out I3.out I4.out rfl (by decide) vo os.length _ rfl OW13.out _ B8 0 e8 (([] : List Smp).flatMap Smp.enc) rfl LL13.out.rd.2 (fun h => (LL13.out.nil h).2) (enc_one _) (by simp only [maxLen]; omega) (by omega) sz13 ?_; intro v14 w14 own14 g14 at14)
              have FIN : Hid (PlaysAt w (N) v14 w14) := Lib.hid (by
                have nb : ∀ g, g < w.heap.size + 2 → w14.heap[g]? = w13.heap[g]? := fun g hg => g14.block g (by omega) (fun e => by have := (OW13.out.block g e.symm).1; omega)
                refine ⟨z, [], os ++ [], A8, c8, A9, c9, (nb _ (by omega)).trans VA13.out, GA13.out.zero, (nb _ (by omega)).trans VB13.out, GB13.out.zero, Ok.nil (by omega) (by omega), ?_, ?_, ?_, ?_, BEL13.out.grown g14 BEL13.out.size (fun g hg => by have := (OW13.out.block g hg).1; omega), Nat.le_trans sz13 g14.size⟩
                · rw [List.length_append, List.flatMap_append]; exact own14
                · rw [List.append_nil]; exact OR.out
                · rw [List.append_nil]; exact OZ.out
                · have := HY.out; simpa using this)
              clear own14 g14 at14
              go_roundg (100 - (j + 1))
              case measure => omega
              case rel => exact ⟨j + 1, N, _, by omega, by omega, hN1, by omega, by go_num, by go_num, rfl, FIN⟩

            · go_roundg (100 - (j + 1))
              case measure => omega
              case rel => exact ⟨j + 1, N, _, by omega, by omega, hN1, by omega, by go_num, by go_num, rfl, z, [], os, A2, c2, B3, d3, VA7.out, GA7.out, VB7.out, GB7.out, OK2.out, OW7.out, OR.out, OZ.out, HY.out, BEL7.out, sz7⟩

          · obtain ⟨y, hy⟩ : ∃ y, ys[ys.length - 1]? = some y := ⟨_, List.getElem?_eq_getElem (Nat.sub_lt h0 (by decide))⟩
            have y0 := OK2.out.lo y (List.mem_of_getElem? hy)
            have y1 := OK2.out.hi y (List.mem_of_getElem? hy)
            have HY2 := Lib.hid hy
            clear hy
            go_wp2_with fail
            · refine (seal_some z A2 ys.length c2 ys y w7 GA7.out OK2.out HY2.out h0).mono ?_
              rintro e w8 ⟨A8, c8, B8, e8, rfl, g8, l8, hb⟩
              simp only [List.length_nil] at g8 l8 ⊢
              have VA8 := Lib.hid (VA7.out.keep hb)
              have VB8 := Lib.hid (VB7.out.keep hb)
              have GB8 := Lib.hid (GB7.out.after hb)
              have OW8 := Lib.hid (OW7.out.below hb)
              have BEL8 := Lib.hid (below_after BEL7.out hb BEL7.out.size)
              have s78 := hb.size
              have e8a : w.heap.size + 2 ≤ w8.heap.size := by omega
              clear hb a0 a1 la7 s78
              have b0 := VB8.out.c0
              have b1' := VB8.out.c1
              have lb8 := VB8.out.lt
              go_wp2_with fail
              have VA9 : Hid (Var (w8.alloc (.cells #[.int .i64 (y.t + 1), .slice A8 0 c8] 25)) w.heap.size z A2 ys.length c2) := Lib.hid (VA8.out.alloc _)
              have VB9 : Hid (Var (w8.alloc (.cells #[.int .i64 (y.t + 1), .slice A8 0 c8] 25)) (w.heap.size + 1) z B3 ys.length d3) := Lib.hid (VB8.out.alloc _)
              have Vc9 : Hid (Var (w8.alloc (.cells #[.int .i64 (y.t + 1), .slice A8 0 c8] 25)) w8.heap.size (y.t + 1) A8 0 c8) := Lib.hid (Var.new _ _ _ _ _)
              have GB9 : Hid (GotS (w8.alloc (.cells #[.int .i64 (y.t + 1), .slice A8 0 c8] 25)) ys.length ys B3 d3) := Lib.hid (GB8.out.after (below_alloc _ _))
              have G89 : Hid (GotS (w8.alloc (.cells #[.int .i64 (y.t + 1), .slice A8 0 c8] 25)) 0 [] A8 c8) := Lib.hid (g8.after (below_alloc _ _))
              have L89 : Hid (GotS (w8.alloc (.cells #[.int .i64 (y.t + 1), .slice A8 0 c8] 25)) ys.length ys B8 e8) := Lib.hid (l8.after (below_alloc _ _))
              have OW9 : Hid (Own (w8.alloc (.cells #[.int .i64 (y.t + 1), .slice A8 0 c8] 25)) (w.heap.size + 2) 30 2 vo os.length (os.flatMap Smp.enc)) := Lib.hid (OW8.out.alloc _)
              have BEL9 : Hid (Below w.heap.size w (w8.alloc (.cells #[.int .i64 (y.t + 1), .slice A8 0 c8] 25))) := Lib.hid (BEL8.out.alloc BEL8.out.size _)
              clear VA8 VB8 GB8 OW8 BEL8 g8 l8 b0 b1' lb8
              generalize (w8.alloc (.cells #[.int .i64 (y.t + 1), .slice A8 0 c8] 25)) = wd at VA9 VB9 Vc9 GB9 G89 L89 OW9 BEL9 ⊢
              refine (refSeal_some z B3 ys.length d3 ys y _ GB9.out OK2.out HY2.out h0).mono ?_
              rintro e w9 ⟨A9, c9, B9, e9, rfl, g9, _, hb⟩
              simp only [List.length_nil] at g9 ⊢
              have VA10 := Lib.hid (VA9.out.keep hb)
              have VB10 := Lib.hid (VB9.out.keep hb)
              have Vc10 := Lib.hid (Vc9.out.keep hb)
              have G810 := Lib.hid (G89.out.after hb)
              have L810 := Lib.hid (L89.out.after hb)
              have OW10 := Lib.hid (OW9.out.below hb)
              have BEL10 := Lib.hid (below_after BEL9.out hb BEL9.out.size)
              clear hb VA9 VB9 Vc9 GB9 G89 L89 OW9 BEL9
              have a0 := Vc10.out.c0
              have a1 := Vc10.out.c1
              have la10 := Vc10.out.lt
              have e9a : w8.heap.size < w9.heap.size := la10
              go_wp2_with fail
              have VA11 : Hid (Var (w9.alloc (.cells #[.int .i64 (y.t + 1), .slice A9 0 c9] 25)) w.heap.size z A2 ys.length c2) := Lib.hid (VA10.out.alloc _)
              have VB11 : Hid (Var (w9.alloc (.cells #[.int .i64 (y.t + 1), .slice A9 0 c9] 25)) (w.heap.size + 1) z B3 ys.length d3) := Lib.hid (VB10.out.alloc _)
              have Vc11 : Hid (Var (w9.alloc (.cells #[.int .i64 (y.t + 1), .slice A9 0 c9] 25)) w8.heap.size (y.t + 1) A8 0 c8) := Lib.hid (Vc10.out.alloc _)
              have Vd11 : Hid (Var (w9.alloc (.cells #[.int .i64 (y.t + 1), .slice A9 0 c9] 25)) w9.heap.size (y.t + 1) A9 0 c9) := Lib.hid (Var.new _ _ _ _ _)
              have G811 : Hid (GotS (w9.alloc (.cells #[.int .i64 (y.t + 1), .slice A9 0 c9] 25)) 0 [] A8 c8) := Lib.hid (G810.out.after (below_alloc _ _))
              have G911 : Hid (GotS (w9.alloc (.cells #[.int .i64 (y.t + 1), .slice A9 0 c9] 25)) 0 [] A9 c9) := Lib.hid (g9.after (below_alloc _ _))
              have L811 : Hid (GotS (w9.alloc (.cells #[.int .i64 (y.t + 1), .slice A9 0 c9] 25)) ys.length ys B8 e8) := Lib.hid (L810.out.after (below_alloc _ _))
              have OW11 : Hid (Own (w9.alloc (.cells #[.int .i64 (y.t + 1), .slice A9 0 c9] 25)) (w.heap.size + 2) 30 2 vo os.length (os.flatMap Smp.enc)) := Lib.hid (OW10.out.alloc _)
              have BEL11 : Hid (Below w.heap.size w (w9.alloc (.cells #[.int .i64 (y.t + 1), .slice A9 0 c9] 25))) := Lib.hid (BEL10.out.alloc BEL10.out.size _)
              clear VA10 VB10 Vc10 G810 L810 OW10 BEL10 g9 a0 a1 la10
              generalize (w9.alloc (.cells #[.int .i64 (y.t + 1), .slice A9 0 c9] 25)) = we at VA11 VB11 Vc11 Vd11 G811 G911 L811 OW11 BEL11 ⊢
              refine (lawSame_any (y.t + 1) A8 A9 0 c8 c9 [] _ G811.out.rd G911.out.rd (by omega)).mono ?_
              rintro e w10 ⟨rfl, hb⟩
              have VA12 := Lib.hid (VA11.out.keep hb)
              have VB12 := Lib.hid (VB11.out.keep hb)
              have Vc12 := Lib.hid (Vc11.out.keep hb)
              have Vd12 := Lib.hid (Vd11.out.keep hb)
              have G812 := Lib.hid (G811.out.after hb)
              have G912 := Lib.hid (G911.out.after hb)
              have L812 := Lib.hid (L811.out.after hb)
              have OW12 := Lib.hid (OW11.out.below hb)
              have BEL12 := Lib.hid (below_after BEL11.out hb BEL11.out.size)
              clear hb VA11 VB11 Vc11 Vd11 G811 G911 L811 OW11 BEL11
              have a0 := Vc12.out.c0
              have a1 := Vc12.out.c1
              have b0 := Vd12.out.c0
              have b1' := Vd12.out.c1
              have ha0 := VA12.out.c0
              have ha1 := VA12.out.c1
              have hb0 := VB12.out.c0
              have hb1' := VB12.out.c1
              have fa0 := VA12.out.f 0
              have fa1 := VA12.out.f 1
              have fb0 := VB12.out.f 0
              have fb1 := VB12.out.f 1
              obtain ⟨lb, lo, y', hlB, hlb, hly, ly⟩ := L812.out.rd.at_ (ys.length - 1) (by omega)
              obtain rfl : y = y' := by rw [HY2.out] at hly; exact Option.some.inj hly
              subst hlB
              have lp := ly.c0
              have t0 : ((ys.length : Int) == 0) = false := by rw [beq_eq_false_iff_ne]; omega
              have t1 : IntKind.i64.wrap ((ys.length : Int) - 1) = (ys.length : Int) - 1 := i64_id (by omega) (by omega)
              have t2 : ((ys.length : Int) - 1).toNat = ys.length - 1 := by omega
              have t3 : 0 ≤ (ys.length : Int) - 1 := by omega
              have t4 : (ys.length : Int) - 1 < (ys.length : Int) := by omega
              have t5 : (1 : Int) ≤ (ys.length : Int) := by omega
              have t6 : IntKind.i64.wrap (y.t + 1 - 1) = y.t := by rw [show y.t + 1 - 1 = y.t by omega]; exact i64_id (by omega) (by omega)
              clear ly hly
              go_wp2_with fail
              clear lp t0 t1 t2 t3 t4 t5 t6
              have ne1 : ¬ w.heap.size = w8.heap.size := by omega
              have ne2 : ¬ w.heap.size = w9.heap.size := by omega
              have ne3 : ¬ w.heap.size + 1 = w8.heap.size := by omega
              have ne4 : ¬ w.heap.size + 1 = w9.heap.size := by omega
              go_region_held3 (fun w' => w'.cell? ⟨w8.heap.size, 0, none⟩ = some (.int .i64 (y.t + 1)) ∧ w'.cell? ⟨w8.heap.size, 1, none⟩ = some (.slice A8 0 c8) ∧ w'.cell? ⟨w9.heap.size, 0, none⟩ = some (.int .i64 (y.t + 1)) ∧ w'.cell? ⟨w9.heap.size, 1, none⟩ = some (.slice A9 0 c9)) (go_keep) (fail)
              obtain ⟨va13, vb13, ga13, gb13, ow13, bel13⟩ := plays_set (z' := (y.t + 1)) VA12.out VB12.out G812.out G912.out OW12.out BEL12.out
              have l13 : GotS ((((w10.setCell ⟨w.heap.size, 0, none⟩ (.int .i64 (y.t + 1))).setCell ⟨w.heap.size, 1, none⟩ (.slice A8 0 c8)).setCell ⟨w.heap.size + 1, 0, none⟩ (.int .i64 (y.t + 1))).setCell ⟨w.heap.size + 1, 1, none⟩ (.slice A9 0 c9)).drew ys.length ys (some ⟨lb, lo, none⟩) e8 :=
                ((L812.out.set VA12.out (y.t + 1) A8 0 c8).set (((VA12.out.set (y.t + 1) A8 0 c8).2 _ (by omega)).trans VB12.out : Var _ (w.heap.size + 1) z B3 ys.length d3) (y.t + 1) A9 0 c9).after (Below.refl _ _).drew
              generalize ((((w10.setCell ⟨w.heap.size, 0, none⟩ (.int .i64 (y.t + 1))).setCell ⟨w.heap.size, 1, none⟩ (.slice A8 0 c8)).setCell ⟨w.heap.size + 1, 0, none⟩ (.int .i64 (y.t + 1))).setCell ⟨w.heap.size + 1, 1, none⟩ (.slice A9 0 c9)).drew = w13 at va13 vb13 ga13 gb13 ow13 bel13 l13 ⊢
              clear a0 a1 b0 b1' ha0 ha1 hb0 hb1' fa0 fa1 fb0 fb1 ne1 ne2 ne3 ne4 VA12 VB12 Vc12 Vd12 G812 G912 L812 OW12 BEL12 e8a e9a
              have VA13 := Lib.hid va13
              have VB13 := Lib.hid vb13
              have GA13 := Lib.hid ga13
              have GB13 := Lib.hid gb13
              have OW13 := Lib.hid ow13
              have BEL13 := Lib.hid bel13
              have LL13 := Lib.hid l13
              have sz13 : w.heap.size + 2 ≤ w13.heap.size := by have := vb13.lt; omega
              have osm : os.length ≤ 101 := by have := HY.out; omega
              obtain ⟨i0, hi, hz0, hz1, hzb⟩ := info_parts smp_info
              have I1 := Lib.hid hi
              have I2 := Lib.hid hz0
              have I3 := Lib.hid hz1
              have I4 := Lib.hid hzb
              clear hi hz0 hz1 hzb va13 vb13 ga13 gb13 ow13 bel13 l13
              go_wp2_with (at_builtin; refine wpList_append_rd _ rfl (.tmp 144) (.tmp 145) 23 rfl (w.heap.size + 2) 30 i0 _ 2 16 Try.underlying23 I1.out I2.out I3.out I4.out rfl (by decide) vo os.length _ rfl OW13.out _ (some ⟨lb, lo, none⟩) ys.length e8 (ys.flatMap Smp.enc) rfl LL13.out.rd.2 (fun h => (LL13.out.nil h).2) (enc_one _) (by simp only [maxLen]; omega) (by omega) sz13 ?_; intro v14 w14 own14 g14 at14)
              have FIN : Hid (PlaysAt w (N) v14 w14) := Lib.hid (by
                have nb : ∀ g, g < w.heap.size + 2 → w14.heap[g]? = w13.heap[g]? := fun g hg => g14.block g (by omega) (fun e => by have := (OW13.out.block g e.symm).1; omega)
                refine ⟨(y.t + 1), [], os ++ ys, A8, c8, A9, c9, (nb _ (by omega)).trans VA13.out, GA13.out.zero, (nb _ (by omega)).trans VB13.out, GB13.out.zero, Ok.nil (by omega) (by omega), ?_, ?_, ?_, ?_, BEL13.out.grown g14 BEL13.out.size (fun g hg => by have := (OW13.out.block g hg).1; omega), Nat.le_trans sz13 g14.size⟩
                · rw [List.length_append, List.flatMap_append]; exact own14
                · exact List.pairwise_append.2 ⟨OR.out, OK2.out.rise, fun a ha b hb => by have := OZ.out a ha; have := OK2.out.lo b hb; omega⟩
                · intro a ha; have hl := last_lt OK2.out HY2.out; rcases List.mem_append.1 ha with ha | ha; (· have := OZ.out a ha; have := OK2.out.lo y (List.mem_of_getElem? HY2.out); omega); (· have := hl a ha; omega)
                · rw [List.length_append]; have := HY.out; simp; omega)
              clear own14 g14 at14
              go_roundg (100 - (j + 1))
              case measure => omega
              case rel => exact ⟨j + 1, N, _, by omega, by omega, hN1, by omega, by go_num, by go_num, rfl, FIN⟩

            · go_roundg (100 - (j + 1))
              case measure => omega
              case rel => exact ⟨j + 1, N, _, by omega, by omega, hN1, by omega, by go_num, by go_num, rfl, z, ys, os, A2, c2, B3, d3, VA7.out, GA7.out, VB7.out, GB7.out, OK2.out, OW7.out, OR.out, OZ.out, HY.out, BEL7.out, sz7⟩


        · have l3 : ¬ (j : Int) < (n1 : Int) := by omega
          go_wp2_with fail
          go_roundg (100 - (j + 1))
          case measure => omega
          case rel => exact ⟨j + 1, N, _, by omega, by omega, hN1, by omega, by go_num, by go_num, rfl, z, ys, os, A2, c2, B3, d3, VA7.out, GA7.out, VB7.out, GB7.out, OK2.out, OW7.out, OR.out, OZ.out, HY.out, BEL7.out, sz7⟩

    · obtain ⟨Ao, co, hvo, f1, f2, f3⟩ := OW.out.form
      subst hvo
      have OS : Hid (RdS wr wr.heap.size Ao os.length os) := Lib.hid (RdS.of_own rfl OW.out)
      have osm : os.length ≤ 100 := by have := HN.out; omega
      have eN : Hid ((os.length : Int) + (xs.length : Int) = (N : Int)) := Lib.hid (by have := HN.out; omega)
      have xm : xs.length ≤ 100 := by have := HN.out; omega
      have FM := Lib.hid (And.intro f1 (And.intro f2 f3))
      clear f1 f2 f3
      obtain ⟨wo, hwo⟩ : ∃ wo, wo = wr := ⟨_, rfl⟩
      subst hwo
      have hc : (j < n0 ∧ (100 : Int) ≤ (j : Int) ∧ ¬ j < 100) ∨ (n0 ≤ j) := by omega
      rcases hc with ⟨q1, q2, q3⟩ | q1
      all_goals
        go_wp2
        go_loopg [25] os.length (fun g v wr => ∃ i : Nat, 1 ≤ i ∧ (i ≤ os.length ∨ i = 1) ∧ os.length - i ≤ g ∧ v = .int .i64 i ∧ Hid (∃ q, wr = wo.drewN q))
        case atStart => exact ⟨1, by omega, by omega, by omega, rfl, ⟨0, rfl⟩⟩
        case round =>
          obtain ⟨i, hi1, hi2, hg2, rfl, HW⟩ := hrel
          have wi : IntKind.i64.wrap ((i : Int) + 1) = (i : Int) + 1 := i64_id (by omega) (by omega)
          by_cases hil : i < os.length
          · obtain ⟨b1, o1, x, hA, hb1, hx, r1⟩ := OS.out.at_ i hil
            obtain ⟨b2, o2, y, hA2, hb2, hy, r2⟩ := OS.out.at_ (i - 1) (by omega)
            obtain rfl : b1 = b2 := by rw [hA] at hA2; injection hA2 with h; injection h
            obtain rfl : o1 = o2 := by rw [hA] at hA2; injection hA2 with h; injection h
            subst hA
            have hw : ∀ p : Addr, wr.cell? p = wo.cell? p := by obtain ⟨q, rfl⟩ := HW.out; intro p; simp
            obtain ⟨p0, p1⟩ := r1.keep (w' := wr) fun p _ => hw p
            obtain ⟨q0, q1'⟩ := r2.keep (w' := wr) fun p _ => hw p
            have hlt2 := rise_get OR.out (show i - 1 < i by omega) hy hx
            have t2 : decide (x.t ≤ y.t) = false := by simp; omega
            have e1 : IntKind.i64.wrap ((i : Int) - 1) = (i : Int) - 1 := i64_id (by omega) (by omega)
            have e2 : ((i : Int) - 1).toNat = i - 1 := by omega
            have e3 : 0 ≤ (i : Int) - 1 := by omega
            have e4 : (i : Int) - 1 < (os.length : Int) := by omega
            have e8 : (1 : Int) ≤ (i : Int) := by omega
            have e9 : (i : Int) < (os.length : Int) := by omega
            clear r1 r2 hx hy hw hA2
            go_wp2_with fail
            go_quiet (fail)
            clear e1 e2
            go_wp2
            go_roundg (os.length - (i + 1))
            case measure => omega
            case rel => exact ⟨i + 1, by omega, by omega, by omega, by go_num, by obtain ⟨q, rfl⟩ := HW.out; exact ⟨q + nq, by simp⟩⟩
          · have VA' : Hid (Var wr w.heap.size z A xs.length c) := Lib.hid (by obtain ⟨q, rfl⟩ := HW.out; exact VA.out)
            have BEL' : Hid (Below w.heap.size w wr) := Lib.hid (by obtain ⟨q, rfl⟩ := HW.out; exact below_drewN BEL.out q)
            clear a0 a1 VA BEL
            go_wp2_with fail
            refine (told_any _).mono ?_
            rintro e w1 ⟨rfl, hb⟩
            have va1 := VA'.out.keep hb
            have b1 := below_after BEL'.out hb BEL'.out.size
            clear hb
            have a0 := va1.c0
            have a1 := va1.c1
            have e5 : IntKind.i64.wrap ((os.length : Int) + (xs.length : Int)) = (os.length : Int) + (xs.length : Int) := i64_id (by omega) (by omega)
            have e6 := eN.out
            clear va1
            go_wp2
            go_ret
            exact ⟨rfl, b1⟩

theorem plays_row (a0 : Option Addr) (len0 cap0 : Nat) (z0 : List Int) (a1 : Option Addr) (len1 cap1 : Nat) (z1 : List Int) (w : World) (w0 : IsRow .i64 w a0 len0 cap0 z0) (w1 : IsRow .i64 w a1 len1 cap1 z1) :
    Calls Try.prog 4 #[.slice a0 len0 cap0, .slice a1 len1 cap1] w fun e w' => e = .returned (.bool true) ∧ Below w.heap.size w w' := by
  obtain ⟨ys, h, hm⟩ := w0.rd
  obtain ⟨ss, h', hm'⟩ := w1.rd
  exact plays_any a0 len0 cap0 ys a1 len1 cap1 ss w h hm h' hm'
end Go.Proofs.Ytjimaanleamgjaa
