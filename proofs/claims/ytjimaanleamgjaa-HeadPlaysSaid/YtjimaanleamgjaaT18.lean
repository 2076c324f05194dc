import Derived.Test.YtjimaanleamgjaaT17
namespace Go.Proofs.Ytjimaanleamgjaa
open Go.RowKit

set_option maxHeartbeats 2000000 in
theorem refPut_late (z : Int) (A : Option Addr) (n c : Nat) (xs : List Smp) (s : Smp) (w : World) (h : GotS w n xs A c) (ok : Ok z xs) (s0 : 0 ≤ s.t) (s1 : s.t < 1099511627776) (hlt : s.t < z) :
    Calls Try.prog 12 #[.agg #[.int .i64 z, .slice A n c], .agg #[.int .i64 s.t, .int .i64 s.v]] w (PutS w z (putL z xs s) (putC z xs s)) := by
  have m1 : n ≤ 64 := by rw [← h.rd.1]; exact ok.len
  have z0 := ok.z0
  have z1 := ok.z1
  have L := Lib.hid h.rd.1
  have H := Lib.hid h
  have OK := Lib.hid ok
  clear h ok
  have E1 : Hid (putL z xs s = xs) := Lib.hid (by unfold putL; rw [if_pos hlt])
  have E2 : Hid (putC z xs s = 6) := Lib.hid (by unfold putC; rw [if_pos hlt])
  go_enter Try.func12, Try.ntmps12
  go_wp2_with fail
  refine (refMay_any _ _ _ _ xs _ (H.out.rd.after ((((Below.refl _ _).alloc (Nat.le_refl _) _).alloc (by simp) _).alloc (by simp; omega) _)) OK.out).mono ?_
  rintro e w5 ⟨rfl, hb⟩
  have b5 : Below w.heap.size w w5 := below_after ((((Below.refl _ _).alloc (Nat.le_refl _) _).alloc (by simp) _).alloc (by simp; omega) _) hb (by simp; omega)
  have PB : Hid (PutB w.heap.size z (.slice A n c) s w5) := Lib.hid (PutB.keep ⟨by simp [go_sem], by simp [go_sem], by simp [go_sem], by simp [go_sem], by simp [go_sem], by simp [go_sem], by simp [go_sem], by simp [go_sem], by simp [go_sem]⟩ hb)
  have hz : w.heap.size + 3 ≤ w5.heap.size := (by have := hb.size; simp at this; omega)
  clear hb
  have hc0 := PB.out.c0
  have hc1 := PB.out.c1
  have hd0 := PB.out.d0
  have hd1 := PB.out.d1
  have hf1 := PB.out.f1
  have hr0 := PB.out.r0
  have hr1 := PB.out.r1
  have hg0 := PB.out.g0
  have hg1 := PB.out.g1
  have hsz : w.heap.size ≤ w5.heap.size := (by omega)
  have hz1 : w.heap.size < w5.heap.size := (by omega)
  have hz2 : w.heap.size + 1 < w5.heap.size := (by omega)
  go_wp2_with fail
  obtain ⟨k0, k1⟩ := out_two (.int .i64 z) (.slice A n c) hr0 hr1
  have b6 : Below w.heap.size w ((w5.setCell ⟨w.heap.size + 1 + 1, 0, none⟩ (.int .i64 z)).setCell ⟨w.heap.size + 1 + 1, 1, none⟩ (.slice A n c)) := (b5.setCell (by show _ ≤ w.heap.size + 1 + 1; omega) _).setCell (by show _ ≤ w.heap.size + 1 + 1; omega) _
  generalize ((w5.setCell ⟨w.heap.size + 1 + 1, 0, none⟩ (.int .i64 z)).setCell ⟨w.heap.size + 1 + 1, 1, none⟩ (.slice A n c)) = w6 at k0 k1 b6 ⊢
  refine bodyPost_ret (v := .tuple #[.agg #[.int .i64 z, .slice A n c], .int .i64 6]) (by simp [results, Try.results12, go_sem, k0, k1]) rfl ?_
  rw [E1.out, E2.out]
  exact ⟨A, c, by rw [L.out], by rw [L.out]; exact H.out.after b6, b6⟩

set_option maxHeartbeats 4000000 in
set_option maxRecDepth 100000 in
theorem refPut_ge (z : Int) (A : Option Addr) (n c : Nat) (xs : List Smp) (s : Smp) (w : World) (h : GotS w n xs A c) (ok : Ok z xs) (s0 : 0 ≤ s.t) (s1 : s.t < 1099511627776) (hge : z ≤ s.t) :
    Calls Try.prog 12 #[.agg #[.int .i64 z, .slice A n c], .agg #[.int .i64 s.t, .int .i64 s.v]] w (PutS w z (putL z xs s) (putC z xs s)) := by
  have m1 : n ≤ 64 := by rw [← h.rd.1]; exact ok.len
  have z0 := ok.z0
  have z1 := ok.z1
  have L := Lib.hid h.rd.1
  have H := Lib.hid h
  have OK := Lib.hid ok
  clear h ok
  have hlt : ¬ s.t < z := by omega
  go_enter Try.func12, Try.ntmps12
  go_wp2_with fail
  refine (refMay_any _ _ _ _ xs _ (H.out.rd.after ((((Below.refl _ _).alloc (Nat.le_refl _) _).alloc (by simp) _).alloc (by simp; omega) _)) OK.out).mono ?_
  rintro e w5 ⟨rfl, hb⟩
  have b5 : Below w.heap.size w w5 := below_after ((((Below.refl _ _).alloc (Nat.le_refl _) _).alloc (by simp) _).alloc (by simp; omega) _) hb (by simp; omega)
  have PB : Hid (PutB w.heap.size z (.slice A n c) s w5) := Lib.hid (PutB.keep ⟨by simp [go_sem], by simp [go_sem], by simp [go_sem], by simp [go_sem], by simp [go_sem], by simp [go_sem], by simp [go_sem], by simp [go_sem], by simp [go_sem]⟩ hb)
  have hz : w.heap.size + 3 ≤ w5.heap.size := (by have := hb.size; simp at this; omega)
  clear hb
  have hc0 := PB.out.c0
  have hc1 := PB.out.c1
  have hd0 := PB.out.d0
  have hd1 := PB.out.d1
  have hf1 := PB.out.f1
  have hr0 := PB.out.r0
  have hr1 := PB.out.r1
  have hg0 := PB.out.g0
  have hg1 := PB.out.g1
  have hsz : w.heap.size ≤ w5.heap.size := (by omega)
  have hz1 : w.heap.size < w5.heap.size := (by omega)
  have hz2 : w.heap.size + 1 < w5.heap.size := (by omega)
  go_wp2_with fail
  go_loopg [6] n (fun g v wr => ∃ k : Nat, k ≤ n ∧ n - k ≤ g ∧ v = .int .i64 k ∧ Hid (PutB w.heap.size z (.slice A n c) s wr ∧ Below w.heap.size w wr) ∧ Hid (∀ j a, j < k → xs[j]? = some a → a.t < s.t))
  case atStart => exact ⟨0, by omega, by omega, rfl, ⟨PB.out, b5⟩, fun j a hj => absurd hj (Nat.not_lt_zero _)⟩
  case round =>
    obtain ⟨k, hk1, hg, rfl, HP, HA⟩ := hrel
    clear hc0 hc1 hd0 hd1 hf1 hr0 hr1 hg0 hg1 hsz hz1 hz2 hz PB b5
    have PB := Lib.hid HP.out.1
    have b5 := HP.out.2
    clear HP
    have hc0 := PB.out.c0
    have hc1 := PB.out.c1
    have hd0 := PB.out.d0
    have hd1 := PB.out.d1
    have hr0 := PB.out.r0
    have hr1 := PB.out.r1
    have hg0 := PB.out.g0
    have hg1 := PB.out.g1
    have hlt9 := PB.out.lt
    have hsz : w.heap.size ≤ wr.heap.size := by omega
    by_cases hkn : k < n
    · obtain ⟨b1, o1, x, hA, hb1, hx, r1⟩ := H.out.rd.at_ k hkn
      subst hA
      have p0 : wr.cell? ⟨b1, o1 + k * 2, none⟩ = some (.int .i64 x.t) := (b5.cell hb1).trans r1.c0
      have HX := Lib.hid hx
      have e9 : (k : Int) < (n : Int) := by omega
      clear r1 hx
      by_cases hc9 : x.t < s.t
      · have d9 : decide (x.t < s.t) = true := by simpa using hc9
        go_wp2_with fail
        go_quiet (fail)
        go_wp2
        go_roundg (n - (k + 1))
        case measure => omega
        case rel =>
          refine ⟨k + 1, by omega, by omega, by go_num, ⟨PB.out.keep (below_drewN (Below.refl _ _) _), below_drewN b5 _⟩, ?_⟩
          intro j a hj ha
          by_cases e : j = k
          · subst e; rw [HX.out] at ha; cases ha; exact hc9
          · exact HA.out j a (by omega) ha
      · have d9 : decide (x.t < s.t) = false := by simpa using hc9
        have HP : Hid (pos s.t xs = k) := Lib.hid (pos_at s.t xs k (by rw [L.out]; omega) HA.out (fun a ha => by rw [HX.out] at ha; cases ha; omega))
        go_wp2_with fail
        go_quiet (fail)
        have p06 : (wr.drewN nq).cell? ⟨b1, o1 + k * 2, none⟩ = some (.int .i64 x.t) := by simpa using p0
        clear p0
        have p0 := p06
        clear p06
        have PB6 : Hid (PutB w.heap.size z (.slice ((some ⟨b1, o1, none⟩) : Option Addr) n c) s (wr.drewN nq)) := Lib.hid (PB.out.keep (below_drewN (Below.refl _ _) _))
        have b6 : Below w.heap.size w (wr.drewN nq) := below_drewN b5 _
        clear PB b5
        have PB := PB6
        have b5 := b6
        clear PB6 b6
        generalize wr.drewN nq = w6 at PB b5 p0 ⊢
        clear hc0 hc1 hd0 hd1 hr0 hr1 hg0 hg1
        have hc0 := PB.out.c0
        have hc1 := PB.out.c1
        have hd0 := PB.out.d0
        have hd1 := PB.out.d1
        have hr0 := PB.out.r0
        have hr1 := PB.out.r1
        have hg0 := PB.out.g0
        have hg1 := PB.out.g1
        have lt6 := PB.out.lt
        by_cases hc7 : x.t = s.t
        · have e7 : (x.t == s.t) = true := by simpa using hc7
          have E1 : Hid (putL z xs s = xs) := Lib.hid (by unfold putL; rw [if_neg (by omega), if_pos (hit_of HX.out hc7)])
          have E2 : Hid (putC z xs s = 7) := Lib.hid (by unfold putC; rw [if_neg (by omega), if_pos (hit_of HX.out hc7)])
          go_wp2_with fail
          go_quiet (fail)
          have p06 : (w6.drewN nq).cell? ⟨b1, o1 + k * 2, none⟩ = some (.int .i64 x.t) := by simpa using p0
          clear p0
          have p0 := p06
          clear p06
          have PB6 : Hid (PutB w.heap.size z (.slice ((some ⟨b1, o1, none⟩) : Option Addr) n c) s (w6.drewN nq)) := Lib.hid (PB.out.keep (below_drewN (Below.refl _ _) _))
          have b6 : Below w.heap.size w (w6.drewN nq) := below_drewN b5 _
          clear PB b5
          have PB := PB6
          have b5 := b6
          clear PB6 b6
          generalize w6.drewN nq = w7 at PB b5 p0 ⊢
          clear hc0 hc1 hd0 hd1 hr0 hr1 hg0 hg1
          have hc0 := PB.out.c0
          have hc1 := PB.out.c1
          have hd0 := PB.out.d0
          have hd1 := PB.out.d1
          have hr0 := PB.out.r0
          have hr1 := PB.out.r1
          have hg0 := PB.out.g0
          have hg1 := PB.out.g1
          go_wp2
          obtain ⟨k0, k1⟩ := out_two (.int .i64 z) (.slice (some ⟨b1, o1, none⟩) n c) hr0 hr1
          have b6 : Below w.heap.size w ((w7.setCell ⟨w.heap.size + 1 + 1, 0, none⟩ (.int .i64 z)).setCell ⟨w.heap.size + 1 + 1, 1, none⟩ (.slice (some ⟨b1, o1, none⟩) n c)) := (b5.setCell (by show _ ≤ w.heap.size + 1 + 1; omega) _).setCell (by show _ ≤ w.heap.size + 1 + 1; omega) _
          generalize ((w7.setCell ⟨w.heap.size + 1 + 1, 0, none⟩ (.int .i64 z)).setCell ⟨w.heap.size + 1 + 1, 1, none⟩ (.slice (some ⟨b1, o1, none⟩) n c)) = w6 at k0 k1 b6 ⊢
          refine bodyPost_ret (v := .tuple #[.agg #[.int .i64 z, .slice (some ⟨b1, o1, none⟩) n c], .int .i64 7]) (by simp [results, Try.results12, go_sem, k0, k1]) rfl ?_
          rw [E1.out, E2.out]
          exact ⟨(some ⟨b1, o1, none⟩), c, by rw [L.out], by rw [L.out]; exact H.out.after b6, b6⟩
        · have e7 : (x.t == s.t) = false := by simpa using hc7
          have HH : Hid (hit s.t xs = false) := Lib.hid (hit_not (k := k) HA.out (fun j a hj ha => by
            by_cases e : j = k
            · subst e; rw [HX.out] at ha; cases ha; omega
            · have := rise_get OK.out.rise (show k < j by omega) HX.out ha; omega))
          by_cases hn64 : 64 ≤ n
          · have m2 : (64 : Int) ≤ (n : Int) := by omega
            have E1 : Hid (putL z xs s = xs) := Lib.hid (by unfold putL; rw [if_neg (by omega), if_neg (by rw [HH.out]; simp), if_pos (by rw [L.out]; omega)])
            have E2 : Hid (putC z xs s = 8) := Lib.hid (by unfold putC; rw [if_neg (by omega), if_neg (by rw [HH.out]; simp), if_pos (by rw [L.out]; omega)])
            go_wp2_with fail
            go_quiet (fail)
            have PB6 : Hid (PutB w.heap.size z (.slice ((some ⟨b1, o1, none⟩) : Option Addr) n c) s (w6.drewN nq)) := Lib.hid (PB.out.keep (below_drewN (Below.refl _ _) _))
            have b6 : Below w.heap.size w (w6.drewN nq) := below_drewN b5 _
            clear PB b5
            have PB := PB6
            have b5 := b6
            clear PB6 b6
            generalize w6.drewN nq = w7 at PB b5 ⊢
            clear hc0 hc1 hd0 hd1 hr0 hr1 hg0 hg1
            have hc0 := PB.out.c0
            have hc1 := PB.out.c1
            have hd0 := PB.out.d0
            have hd1 := PB.out.d1
            have hr0 := PB.out.r0
            have hr1 := PB.out.r1
            have hg0 := PB.out.g0
            have hg1 := PB.out.g1
            go_wp2
            obtain ⟨k0, k1⟩ := out_two (.int .i64 z) (.slice (some ⟨b1, o1, none⟩) n c) hr0 hr1
            have b6 : Below w.heap.size w ((w7.setCell ⟨w.heap.size + 1 + 1, 0, none⟩ (.int .i64 z)).setCell ⟨w.heap.size + 1 + 1, 1, none⟩ (.slice (some ⟨b1, o1, none⟩) n c)) := (b5.setCell (by show _ ≤ w.heap.size + 1 + 1; omega) _).setCell (by show _ ≤ w.heap.size + 1 + 1; omega) _
            generalize ((w7.setCell ⟨w.heap.size + 1 + 1, 0, none⟩ (.int .i64 z)).setCell ⟨w.heap.size + 1 + 1, 1, none⟩ (.slice (some ⟨b1, o1, none⟩) n c)) = w6 at k0 k1 b6 ⊢
            refine bodyPost_ret (v := .tuple #[.agg #[.int .i64 z, .slice (some ⟨b1, o1, none⟩) n c], .int .i64 8]) (by simp [results, Try.results12, go_sem, k0, k1]) rfl ?_
            rw [E1.out, E2.out]
            exact ⟨(some ⟨b1, o1, none⟩), c, by rw [L.out], by rw [L.out]; exact H.out.after b6, b6⟩
          · have m2 : ¬ (64 : Int) ≤ (n : Int) := by omega
            have m3 : n < 64 := by omega
            have E1 : Hid (putL z xs s = xs.take k ++ s :: xs.drop k) := Lib.hid (by unfold putL; rw [if_neg (by omega), if_neg (by rw [HH.out]; simp), if_neg (by rw [L.out]; omega)]; unfold ins; rw [HP.out])
            have E2 : Hid (putC z xs s = 0) := Lib.hid (by unfold putC; rw [if_neg (by omega), if_neg (by rw [HH.out]; simp), if_neg (by rw [L.out]; omega)])
            go_wp2_with fail
            go_quiet (fail)
            have PB6 : Hid (PutB w.heap.size z (.slice ((some ⟨b1, o1, none⟩) : Option Addr) n c) s (w6.drewN nq)) := Lib.hid (PB.out.keep (below_drewN (Below.refl _ _) _))
            have b6 : Below w.heap.size w (w6.drewN nq) := below_drewN b5 _
            clear PB b5
            have PB := PB6
            have b5 := b6
            clear PB6 b6
            generalize w6.drewN nq = w7 at PB b5 ⊢
            clear hc0 hc1 hd0 hd1 hr0 hr1 hg0 hg1
            have hc0 := PB.out.c0
            have hc1 := PB.out.c1
            have hd0 := PB.out.d0
            have hd1 := PB.out.d1
            have hr0 := PB.out.r0
            have hr1 := PB.out.r1
            have hg0 := PB.out.g0
            have hg1 := PB.out.g1
            clear p0
            have lt7 := PB.out.lt
            have hsz7 : w.heap.size ≤ w7.heap.size := by omega
            have hz17 : w.heap.size < w7.heap.size := by omega
            have hz27 : w.heap.size + 1 < w7.heap.size := by omega
            have hnc : n ≤ c := H.out.le
            have hkc : (k : Int) ≤ (c : Int) := by omega
            have hck : ¬ (c = k) := by omega
            have hcm : c ≤ maxLen := H.out.cap
            unfold maxLen at hcm
            have RK : Hid (∀ W : World, Below w.heap.size w W → Rd W W.heap.size 2 (some ⟨b1, o1, none⟩) k ((xs.take k).flatMap Smp.enc)) := Lib.hid (fun W hW => (H.out.rd.take (show k ≤ n by omega)).2.after hW)
            have NILK : Hid (((some ⟨b1, o1, none⟩) : Option Addr) = none → c = 0) := Lib.hid (fun h => (H.out.nil h).2)
            obtain ⟨i0, hi, hz0, hz1, hzb⟩ := info_parts smp_info
            have I1 := Lib.hid hi
            have I2 := Lib.hid hz0
            have I3 := Lib.hid hz1
            have I4 := Lib.hid hzb
            clear hi hz0 hz1 hzb
            have BEL := Lib.hid b5
            have O2W : Hid (Own ((w7.drew.alloc (.cells #[] 30)).alloc (.cells #[.int .i64 s.t, .int .i64 s.v] 30)) w7.heap.size 30 2 (.slice (some ⟨w7.heap.size, 0, none⟩) 0 0) 0 []) := Lib.hid ((Own.built w7.drew 30 2).alloc _)
            have O3W : Hid (Own ((w7.drew.alloc (.cells #[.int .i64 s.t, .int .i64 s.v] 30)).alloc (.cells #[] 30)) w7.heap.size 30 2 (.slice (some ⟨w7.heap.size + 1, 0, none⟩) 0 0) 0 []) := Lib.hid (Own.base_ (base := (w7.drew.alloc (.cells #[.int .i64 s.t, .int .i64 s.v] 30)).heap.size) (by have := Own.built (w7.drew.alloc (.cells #[.int .i64 s.t, .int .i64 s.v] 30)) 30 2; simpa using this) (fun g hg => by simp [Value.ownBlock] at hg; omega))
            have B2W : Hid (w7.heap.size ≤ ((w7.drew.alloc (.cells #[] 30)).alloc (.cells #[.int .i64 s.t, .int .i64 s.v] 30)).heap.size ∧ w7.heap.size ≤ ((w7.drew.alloc (.cells #[.int .i64 s.t, .int .i64 s.v] 30)).alloc (.cells #[] 30)).heap.size) := Lib.hid ⟨by simp; omega, by simp; omega⟩
            go_wp2_with fail
            go_region_held3 (fun w' => w'.cell? ⟨w.heap.size, 1, none⟩ = some (.slice ((some ⟨b1, o1, none⟩) : Option Addr) n c) ∧ w'.cell? ⟨w.heap.size + 1, 0, none⟩ = some (.int .i64 s.t) ∧ w'.cell? ⟨w.heap.size + 1, 1, none⟩ = some (.int .i64 s.v))
              (first | exact K8 | exact K9 | go_keep)
              (first
                | (refine step_append_rd _ rfl (.tmp 72) (.tmp 76) 23 rfl w7.heap.size 30 i0 _ 2 16 Try.underlying23 I1.out I2.out I3.out I4.out rfl (by decide) (.slice (some ⟨w7.heap.size, 0, none⟩) 0 0) 0 [] (by simp [Act.eval, Act.put]) (Own.built w7.drew 30 2) _ (some ⟨b1, o1, none⟩) k c ((xs.take k).flatMap Smp.enc) (by simp [Act.eval, Act.put]) (RK.out _ (by go_grown)) NILK.out (enc_one _) (by simp only [maxLen]; omega) (by omega) (by simp) ?_
                   intro v8 w8 own8 g8 at8
                   have B8 : Below w7.heap.size w7 w8 := Below.grown (by go_grown) g8 (by simp) (fun g hg => by simp [Value.ownBlock] at hg; omega)
                   have K8 : w8.cell? ⟨w.heap.size, 1, none⟩ = some (.slice ((some ⟨b1, o1, none⟩) : Option Addr) n c) ∧ w8.cell? ⟨w.heap.size + 1, 0, none⟩ = some (.int .i64 s.t) ∧ w8.cell? ⟨w.heap.size + 1, 1, none⟩ = some (.int .i64 s.v) := ⟨cell_after B8 hc1, cell_after B8 hd0, cell_after B8 hd1⟩)
                | (refine step_append_rd _ rfl (.tmp 72) (.tmp 76) 23 rfl w7.heap.size 30 i0 _ 2 16 Try.underlying23 I1.out I2.out I3.out I4.out rfl (by decide) (.slice (some ⟨w7.heap.size, 0, none⟩) 0 0) 0 [] (by simp [Act.eval, Act.put]) O2W.out _ (some ⟨b1, o1, none⟩) k c ((xs.take k).flatMap Smp.enc) (by simp [Act.eval, Act.put]) (RK.out _ (by go_grown)) NILK.out (enc_one _) (by simp only [maxLen]; omega) (by omega) B2W.out.1 ?_
                   intro v8 w8 own8 g8 at8
                   have B8 : Below w7.heap.size w7 w8 := Below.grown (by go_grown) g8 (by first | exact B2W.out.1 | exact B2W.out.2) (fun g hg => by simp [Value.ownBlock] at hg; omega)
                   have K8 : w8.cell? ⟨w.heap.size, 1, none⟩ = some (.slice ((some ⟨b1, o1, none⟩) : Option Addr) n c) ∧ w8.cell? ⟨w.heap.size + 1, 0, none⟩ = some (.int .i64 s.t) ∧ w8.cell? ⟨w.heap.size + 1, 1, none⟩ = some (.int .i64 s.v) := ⟨cell_after B8 hc1, cell_after B8 hd0, cell_after B8 hd1⟩
                   have RD8 : Hid (Rd w8 w8.heap.size 2 (some ⟨w7.heap.size + 1, 0, none⟩) 1 s.enc) := Lib.hid ⟨rfl, fun _ => by
                     have hh : w8.heap[w7.heap.size + 1]? = some (.cells s.enc.toArray 30 (0, 0)) := (g8.block _ (by simp only [World.size_alloc, World.size_drew]; omega) (by simp [Value.ownBlock])).trans (heap_at _ _ _ (by simp))
                     exact ⟨w7.heap.size + 1, 0, rfl, (Array.getElem?_eq_some_iff.1 hh).1, fun j u hu => by rw [cell_of_row w8 _ (0 + j) _ 30 (0, 0) hh]; simpa using hu⟩⟩)
                | (refine step_append_rd _ rfl (.tmp 72) (.tmp 76) 23 rfl w7.heap.size 30 i0 _ 2 16 Try.underlying23 I1.out I2.out I3.out I4.out rfl (by decide) (.slice (some ⟨w7.heap.size + 1, 0, none⟩) 0 0) 0 [] (by simp [Act.eval, Act.put]) O3W.out _ (some ⟨b1, o1, none⟩) k c ((xs.take k).flatMap Smp.enc) (by simp [Act.eval, Act.put]) (RK.out _ (by go_grown)) NILK.out (enc_one _) (by simp only [maxLen]; omega) (by omega) B2W.out.2 ?_
                   intro v8 w8 own8 g8 at8
                   have B8 : Below w7.heap.size w7 w8 := Below.grown (by go_grown) g8 (by first | exact B2W.out.1 | exact B2W.out.2) (fun g hg => by simp [Value.ownBlock] at hg; omega)
                   have K8 : w8.cell? ⟨w.heap.size, 1, none⟩ = some (.slice ((some ⟨b1, o1, none⟩) : Option Addr) n c) ∧ w8.cell? ⟨w.heap.size + 1, 0, none⟩ = some (.int .i64 s.t) ∧ w8.cell? ⟨w.heap.size + 1, 1, none⟩ = some (.int .i64 s.v) := ⟨cell_after B8 hc1, cell_after B8 hd0, cell_after B8 hd1⟩
                   have RD8 : Hid (Rd w8 w8.heap.size 2 (some ⟨w7.heap.size, 0, none⟩) 1 s.enc) := Lib.hid ⟨rfl, fun _ => by
                     have hh : w8.heap[w7.heap.size]? = some (.cells s.enc.toArray 30 (0, 0)) := (g8.block _ (by simp only [World.size_alloc, World.size_drew]; omega) (by simp [Value.ownBlock])).trans ((heap_old _ _ _ (by simp)).trans (heap_at _ _ _ rfl))
                     exact ⟨w7.heap.size, 0, rfl, (Array.getElem?_eq_some_iff.1 hh).1, fun j u hu => by rw [cell_of_row w8 _ (0 + j) _ 30 (0, 0) hh]; simpa using hu⟩⟩)
                | (refine step_append_rd _ rfl (.tmp 77) (.tmp 79) 23 rfl w7.heap.size 30 i0 _ 2 16 Try.underlying23 I1.out I2.out I3.out I4.out rfl (by decide) v8 (0 + k) _ (by simp [Act.eval, Act.put]) (own8.alloc (.cells #[.int .i64 s.t, .int .i64 s.v] 30)) _ (some ⟨w8.heap.size, 0, none⟩) 1 1 s.enc (by simp [Act.eval, Act.put]) (Rd.new w8 #[.int .i64 s.t, .int .i64 s.v] 30 2 1 rfl) (fun h => by cases h) (by simp [Smp.enc, Value.oneCell']) (by simp only [maxLen]; omega) (by omega) (by have := B8.size; simp; omega) ?_
                   intro v9 w9 own9 g9 at9
                   have B9 : Below w7.heap.size w7 w9 := (B8.alloc B8.size _).grown g9 (by have := B8.size; simp; omega) (fun g hg => (own8.block g hg).1)
                   have K9 : w9.cell? ⟨w.heap.size, 1, none⟩ = some (.slice ((some ⟨b1, o1, none⟩) : Option Addr) n c) ∧ w9.cell? ⟨w.heap.size + 1, 0, none⟩ = some (.int .i64 s.t) ∧ w9.cell? ⟨w.heap.size + 1, 1, none⟩ = some (.int .i64 s.v) := ⟨cell_after B9 hc1, cell_after B9 hd0, cell_after B9 hd1⟩)
                | (refine step_append_rd _ rfl (.tmp 77) (.tmp 79) 23 rfl w7.heap.size 30 i0 _ 2 16 Try.underlying23 I1.out I2.out I3.out I4.out rfl (by decide) v8 (0 + k) _ (by simp [Act.eval, Act.put]) own8 _ _ 1 1 s.enc (by simp [Act.eval, Act.put]) RD8.out (fun h => by cases h) (by simp [Smp.enc, Value.oneCell']) (by simp only [maxLen]; omega) (by omega) B8.size ?_
                   intro v9 w9 own9 g9 at9
                   have B9 : Below w7.heap.size w7 w9 := B8.grown g9 B8.size (fun g hg => (own8.block g hg).1)
                   have K9 : w9.cell? ⟨w.heap.size, 1, none⟩ = some (.slice ((some ⟨b1, o1, none⟩) : Option Addr) n c) ∧ w9.cell? ⟨w.heap.size + 1, 0, none⟩ = some (.int .i64 s.t) ∧ w9.cell? ⟨w.heap.size + 1, 1, none⟩ = some (.int .i64 s.v) := ⟨cell_after B9 hc1, cell_after B9 hd0, cell_after B9 hd1⟩)
                | fail)
            all_goals
              have BW : Below w.heap.size w w9 := below_after BEL.out B9 (by omega)
              have RD9 : Hid (Rd w9 w9.heap.size 2 (some ⟨b1, o1 + k * 2, none⟩) (n - k) ((xs.drop k).flatMap Smp.enc)) := Lib.hid (by have := (H.out.rd.drop (show k ≤ n by omega)).2.after BW; rw [Addr.add_lit] at this; exact this)
              have OW9 := Lib.hid own9
              have B9H := Lib.hid B9
              have LT7 := Lib.hid lt7
              clear own9 B9 BW K9 K8
              have PB9 := PB.out.keep B9H.out
              clear hc0 hc1 hd0 hd1 hr0 hr1 hg0 hg1
              have hc0 := PB9.c0
              have hc1 := PB9.c1
              have hf1 := PB9.f1
              clear PB9
            all_goals
              go_wp2_with (at_builtin; refine wpList_append_rd _ rfl (.tmp 81) (.tmp 85) 23 rfl w7.heap.size 30 i0 _ 2 16 Try.underlying23 I1.out I2.out I3.out I4.out rfl (by decide) v9 (0 + k + 1) _ rfl OW9.out _ (some ⟨b1, o1 + k * 2, none⟩) (n - k) (c - k) ((xs.drop k).flatMap Smp.enc) rfl RD9.out (fun h => by cases h) (enc_one _) (by simp only [maxLen]; omega) (by omega) B9H.out.size ?_; intro v10 w10 own10 g10 at10; rw [show 0 + k + 1 + (n - k) = n + 1 by omega] at own10; obtain ⟨A10, c10, rfl, q1, q2, q3⟩ := own10.form; have FM := Lib.hid (And.intro q1 (And.intro q2 q3)); clear q1 q2 q3 at10; have B10 : Below w7.heap.size w7 w10 := (B9H.out.grown g10 B9H.out.size (fun g hg => (OW9.out.block g hg).1)); have PB10 := PB.out.keep B10; clear hc0 hc1 hf1; have hc0 := PB10.c0; have hc1 := PB10.c1; have hf1 := PB10.f1; have hr0 := PB10.r0; have hr1 := PB10.r1; have hg0 := PB10.g0; have hg1 := PB10.g1; clear PB10)
            all_goals
              have own10' : Own w10 w7.heap.size 30 2 (.slice A10 (n + 1) c10) (n + 1) ((xs.take k ++ s :: xs.drop k).flatMap Smp.enc) := by
                have e : (xs.take k ++ s :: xs.drop k).flatMap Smp.enc = [] ++ (xs.take k).flatMap Smp.enc ++ s.enc ++ (xs.drop k).flatMap Smp.enc := by
                  rw [List.flatMap_append, List.flatMap_cons, List.nil_append, List.append_assoc]
                rw [e]
                exact own10
              have P8 := put8 PB.out BEL.out B10 own10' (Nat.le_refl _) (by rw [List.length_append, List.length_cons, List.length_take, List.length_drop, L.out]; omega) FM.out
              generalize w10.setCell ⟨w.heap.size, 1, none⟩ (.slice A10 (n + 1) c10) = w11 at P8 ⊢
              obtain ⟨k0, k1⟩ := out_two (.int .i64 z) (.slice A10 (n + 1) c10) P8.r0 P8.r1
              have G9 := P8.done (.int .i64 z) (.slice A10 (n + 1) c10)
              have hlen : (xs.take k ++ s :: xs.drop k).length = n + 1 := P8.len
              generalize ((w11.setCell ⟨w.heap.size + 1 + 1, 0, none⟩ (.int .i64 z)).setCell ⟨w.heap.size + 1 + 1, 1, none⟩ (.slice A10 (n + 1) c10)) = w12 at k0 k1 G9 ⊢
              refine bodyPost_ret (v := .tuple #[.agg #[.int .i64 z, .slice A10 (n + 1) c10], .int .i64 0]) (by simp [results, Try.results12, go_sem, k0, k1]) rfl ?_
              rw [E1.out, E2.out]
              exact ⟨A10, c10, by rw [hlen], by rw [hlen]; exact G9.1, G9.2⟩
    · obtain rfl : n = k := by omega
      have HP : Hid (pos s.t xs = n) := Lib.hid (pos_at s.t xs n (by rw [L.out]; omega) HA.out (fun a ha => absurd (List.getElem?_eq_some_iff.1 ha).1 (by rw [L.out]; omega)))
      have HH : Hid (hit s.t xs = false) := Lib.hid (hit_not (k := n) HA.out (fun j a hj ha => absurd (List.getElem?_eq_some_iff.1 ha).1 (by rw [L.out]; omega)))
      by_cases hn64 : 64 ≤ n
      · go_wp2_with fail
        go_quiet (fail)
        have PB6 : Hid (PutB w.heap.size z (.slice (A : Option Addr) n c) s (wr.drewN nq)) := Lib.hid (PB.out.keep (below_drewN (Below.refl _ _) _))
        have b6 : Below w.heap.size w (wr.drewN nq) := below_drewN b5 _
        clear PB b5
        have PB := PB6
        have b5 := b6
        clear PB6 b6
        generalize wr.drewN nq = w6 at PB b5 ⊢
        clear hc0 hc1 hd0 hd1 hr0 hr1 hg0 hg1
        have hc0 := PB.out.c0
        have hc1 := PB.out.c1
        have hd0 := PB.out.d0
        have hd1 := PB.out.d1
        have hr0 := PB.out.r0
        have hr1 := PB.out.r1
        have hg0 := PB.out.g0
        have hg1 := PB.out.g1
        have m2 : (64 : Int) ≤ (n : Int) := by omega
        have E1 : Hid (putL z xs s = xs) := Lib.hid (by unfold putL; rw [if_neg (by omega), if_neg (by rw [HH.out]; simp), if_pos (by rw [L.out]; omega)])
        have E2 : Hid (putC z xs s = 8) := Lib.hid (by unfold putC; rw [if_neg (by omega), if_neg (by rw [HH.out]; simp), if_pos (by rw [L.out]; omega)])
        go_wp2_with fail
        go_quiet (fail)
        have PB6 : Hid (PutB w.heap.size z (.slice (A : Option Addr) n c) s (w6.drewN nq)) := Lib.hid (PB.out.keep (below_drewN (Below.refl _ _) _))
        have b6 : Below w.heap.size w (w6.drewN nq) := below_drewN b5 _
        clear PB b5
        have PB := PB6
        have b5 := b6
        clear PB6 b6
        generalize w6.drewN nq = w7 at PB b5 ⊢
        clear hc0 hc1 hd0 hd1 hr0 hr1 hg0 hg1
        have hc0 := PB.out.c0
        have hc1 := PB.out.c1
        have hd0 := PB.out.d0
        have hd1 := PB.out.d1
        have hr0 := PB.out.r0
        have hr1 := PB.out.r1
        have hg0 := PB.out.g0
        have hg1 := PB.out.g1
        go_wp2
        obtain ⟨k0, k1⟩ := out_two (.int .i64 z) (.slice A n c) hr0 hr1
        have b6 : Below w.heap.size w ((w7.setCell ⟨w.heap.size + 1 + 1, 0, none⟩ (.int .i64 z)).setCell ⟨w.heap.size + 1 + 1, 1, none⟩ (.slice A n c)) := (b5.setCell (by show _ ≤ w.heap.size + 1 + 1; omega) _).setCell (by show _ ≤ w.heap.size + 1 + 1; omega) _
        generalize ((w7.setCell ⟨w.heap.size + 1 + 1, 0, none⟩ (.int .i64 z)).setCell ⟨w.heap.size + 1 + 1, 1, none⟩ (.slice A n c)) = w6 at k0 k1 b6 ⊢
        refine bodyPost_ret (v := .tuple #[.agg #[.int .i64 z, .slice A n c], .int .i64 8]) (by simp [results, Try.results12, go_sem, k0, k1]) rfl ?_
        rw [E1.out, E2.out]
        exact ⟨A, c, by rw [L.out], by rw [L.out]; exact H.out.after b6, b6⟩
      · cases A with
        | none =>
          have NN : Hid (n = 0 ∧ c = 0) := Lib.hid (H.out.nil rfl)
          go_wp2_with fail
          go_quiet (fail)
          have PB6 : Hid (PutB w.heap.size z (.slice (none : Option Addr) n c) s (wr.drewN nq)) := Lib.hid (PB.out.keep (below_drewN (Below.refl _ _) _))
          have b6 : Below w.heap.size w (wr.drewN nq) := below_drewN b5 _
          clear PB b5
          have PB := PB6
          have b5 := b6
          clear PB6 b6
          generalize wr.drewN nq = w6 at PB b5 ⊢
          clear hc0 hc1 hd0 hd1 hr0 hr1 hg0 hg1
          have hc0 := PB.out.c0
          have hc1 := PB.out.c1
          have hd0 := PB.out.d0
          have hd1 := PB.out.d1
          have hr0 := PB.out.r0
          have hr1 := PB.out.r1
          have hg0 := PB.out.g0
          have hg1 := PB.out.g1
          have m2 : ¬ (64 : Int) ≤ (n : Int) := by omega
          have m3 : n < 64 := by omega
          have E1 : Hid (putL z xs s = xs.take n ++ s :: xs.drop n) := Lib.hid (by unfold putL; rw [if_neg (by omega), if_neg (by rw [HH.out]; simp), if_neg (by rw [L.out]; omega)]; unfold ins; rw [HP.out])
          have E2 : Hid (putC z xs s = 0) := Lib.hid (by unfold putC; rw [if_neg (by omega), if_neg (by rw [HH.out]; simp), if_neg (by rw [L.out]; omega)])
          go_wp2_with fail
          go_quiet (fail)
          have PB6 : Hid (PutB w.heap.size z (.slice (none : Option Addr) n c) s (w6.drewN nq)) := Lib.hid (PB.out.keep (below_drewN (Below.refl _ _) _))
          have b6 : Below w.heap.size w (w6.drewN nq) := below_drewN b5 _
          clear PB b5
          have PB := PB6
          have b5 := b6
          clear PB6 b6
          generalize w6.drewN nq = w7 at PB b5 ⊢
          clear hc0 hc1 hd0 hd1 hr0 hr1 hg0 hg1
          have hc0 := PB.out.c0
          have hc1 := PB.out.c1
          have hd0 := PB.out.d0
          have hd1 := PB.out.d1
          have hr0 := PB.out.r0
          have hr1 := PB.out.r1
          have hg0 := PB.out.g0
          have hg1 := PB.out.g1
          have lt7 := PB.out.lt
          have hsz7 : w.heap.size ≤ w7.heap.size := by omega
          have hz17 : w.heap.size < w7.heap.size := by omega
          have hz27 : w.heap.size + 1 < w7.heap.size := by omega
          have hnc : n ≤ c := H.out.le
          have hkc : (n : Int) ≤ (c : Int) := by omega
          have hcm : c ≤ maxLen := H.out.cap
          unfold maxLen at hcm
          have RK : Hid (∀ W : World, Below w.heap.size w W → Rd W W.heap.size 2 none n ((xs.take n).flatMap Smp.enc)) := Lib.hid (fun W hW => (H.out.rd.take (show n ≤ n by omega)).2.after hW)
          have NILK : Hid ((none : Option Addr) = none → c = 0) := Lib.hid (fun h => (H.out.nil h).2)
          obtain ⟨i0, hi, hz0, hz1, hzb⟩ := info_parts smp_info
          have I1 := Lib.hid hi
          have I2 := Lib.hid hz0
          have I3 := Lib.hid hz1
          have I4 := Lib.hid hzb
          clear hi hz0 hz1 hzb
          have BEL := Lib.hid b5
          have O2W : Hid (Own ((w7.drew.alloc (.cells #[] 30)).alloc (.cells #[.int .i64 s.t, .int .i64 s.v] 30)) w7.heap.size 30 2 (.slice (some ⟨w7.heap.size, 0, none⟩) 0 0) 0 []) := Lib.hid ((Own.built w7.drew 30 2).alloc _)
          have O3W : Hid (Own ((w7.drew.alloc (.cells #[.int .i64 s.t, .int .i64 s.v] 30)).alloc (.cells #[] 30)) w7.heap.size 30 2 (.slice (some ⟨w7.heap.size + 1, 0, none⟩) 0 0) 0 []) := Lib.hid (Own.base_ (base := (w7.drew.alloc (.cells #[.int .i64 s.t, .int .i64 s.v] 30)).heap.size) (by have := Own.built (w7.drew.alloc (.cells #[.int .i64 s.t, .int .i64 s.v] 30)) 30 2; simpa using this) (fun g hg => by simp [Value.ownBlock] at hg; omega))
          have B2W : Hid (w7.heap.size ≤ ((w7.drew.alloc (.cells #[] 30)).alloc (.cells #[.int .i64 s.t, .int .i64 s.v] 30)).heap.size ∧ w7.heap.size ≤ ((w7.drew.alloc (.cells #[.int .i64 s.t, .int .i64 s.v] 30)).alloc (.cells #[] 30)).heap.size) := Lib.hid ⟨by simp; omega, by simp; omega⟩
          go_wp2_with fail
          go_region_held3 (fun w' => w'.cell? ⟨w.heap.size, 1, none⟩ = some (.slice (none : Option Addr) n c) ∧ w'.cell? ⟨w.heap.size + 1, 0, none⟩ = some (.int .i64 s.t) ∧ w'.cell? ⟨w.heap.size + 1, 1, none⟩ = some (.int .i64 s.v))
            (first | exact K8 | exact K9 | go_keep)
            (first
              | (refine step_append_rd _ rfl (.tmp 72) (.tmp 76) 23 rfl w7.heap.size 30 i0 _ 2 16 Try.underlying23 I1.out I2.out I3.out I4.out rfl (by decide) (.slice (some ⟨w7.heap.size, 0, none⟩) 0 0) 0 [] (by simp [Act.eval, Act.put]) (Own.built w7.drew 30 2) _ none n c ((xs.take n).flatMap Smp.enc) (by simp [Act.eval, Act.put]) (RK.out _ (by go_grown)) (fun _ => NN.out.2) (enc_one _) (by simp only [maxLen]; omega) (by omega) (by simp) ?_
                 intro v8 w8 own8 g8 at8
                 have B8 : Below w7.heap.size w7 w8 := Below.grown (by go_grown) g8 (by simp) (fun g hg => by simp [Value.ownBlock] at hg; omega)
                 have K8 : w8.cell? ⟨w.heap.size, 1, none⟩ = some (.slice (none : Option Addr) n c) ∧ w8.cell? ⟨w.heap.size + 1, 0, none⟩ = some (.int .i64 s.t) ∧ w8.cell? ⟨w.heap.size + 1, 1, none⟩ = some (.int .i64 s.v) := ⟨cell_after B8 hc1, cell_after B8 hd0, cell_after B8 hd1⟩)
              | (refine step_append_rd _ rfl (.tmp 72) (.tmp 76) 23 rfl w7.heap.size 30 i0 _ 2 16 Try.underlying23 I1.out I2.out I3.out I4.out rfl (by decide) (.slice (some ⟨w7.heap.size, 0, none⟩) 0 0) 0 [] (by simp [Act.eval, Act.put]) O2W.out _ none n c ((xs.take n).flatMap Smp.enc) (by simp [Act.eval, Act.put]) (RK.out _ (by go_grown)) (fun _ => NN.out.2) (enc_one _) (by simp only [maxLen]; omega) (by omega) B2W.out.1 ?_
                 intro v8 w8 own8 g8 at8
                 have B8 : Below w7.heap.size w7 w8 := Below.grown (by go_grown) g8 (by first | exact B2W.out.1 | exact B2W.out.2) (fun g hg => by simp [Value.ownBlock] at hg; omega)
                 have K8 : w8.cell? ⟨w.heap.size, 1, none⟩ = some (.slice (none : Option Addr) n c) ∧ w8.cell? ⟨w.heap.size + 1, 0, none⟩ = some (.int .i64 s.t) ∧ w8.cell? ⟨w.heap.size + 1, 1, none⟩ = some (.int .i64 s.v) := ⟨cell_after B8 hc1, cell_after B8 hd0, cell_after B8 hd1⟩
                 have RD8 : Hid (Rd w8 w8.heap.size 2 (some ⟨w7.heap.size + 1, 0, none⟩) 1 s.enc) := Lib.hid ⟨rfl, fun _ => by
                   have hh : w8.heap[w7.heap.size + 1]? = some (.cells s.enc.toArray 30 (0, 0)) := (g8.block _ (by simp only [World.size_alloc, World.size_drew]; omega) (by simp [Value.ownBlock])).trans (heap_at _ _ _ (by simp))
                   exact ⟨w7.heap.size + 1, 0, rfl, (Array.getElem?_eq_some_iff.1 hh).1, fun j u hu => by rw [cell_of_row w8 _ (0 + j) _ 30 (0, 0) hh]; simpa using hu⟩⟩)
              | (refine step_append_rd _ rfl (.tmp 72) (.tmp 76) 23 rfl w7.heap.size 30 i0 _ 2 16 Try.underlying23 I1.out I2.out I3.out I4.out rfl (by decide) (.slice (some ⟨w7.heap.size + 1, 0, none⟩) 0 0) 0 [] (by simp [Act.eval, Act.put]) O3W.out _ none n c ((xs.take n).flatMap Smp.enc) (by simp [Act.eval, Act.put]) (RK.out _ (by go_grown)) (fun _ => NN.out.2) (enc_one _) (by simp only [maxLen]; omega) (by omega) B2W.out.2 ?_
                 intro v8 w8 own8 g8 at8
                 have B8 : Below w7.heap.size w7 w8 := Below.grown (by go_grown) g8 (by first | exact B2W.out.1 | exact B2W.out.2) (fun g hg => by simp [Value.ownBlock] at hg; omega)
                 have K8 : w8.cell? ⟨w.heap.size, 1, none⟩ = some (.slice (none : Option Addr) n c) ∧ w8.cell? ⟨w.heap.size + 1, 0, none⟩ = some (.int .i64 s.t) ∧ w8.cell? ⟨w.heap.size + 1, 1, none⟩ = some (.int .i64 s.v) := ⟨cell_after B8 hc1, cell_after B8 hd0, cell_after B8 hd1⟩
                 have RD8 : Hid (Rd w8 w8.heap.size 2 (some ⟨w7.heap.size, 0, none⟩) 1 s.enc) := Lib.hid ⟨rfl, fun _ => by
                   have hh : w8.heap[w7.heap.size]? = some (.cells s.enc.toArray 30 (0, 0)) := (g8.block _ (by simp only [World.size_alloc, World.size_drew]; omega) (by simp [Value.ownBlock])).trans ((heap_old _ _ _ (by simp)).trans (heap_at _ _ _ rfl))
                   exact ⟨w7.heap.size, 0, rfl, (Array.getElem?_eq_some_iff.1 hh).1, fun j u hu => by rw [cell_of_row w8 _ (0 + j) _ 30 (0, 0) hh]; simpa using hu⟩⟩)
              | (refine step_append_rd _ rfl (.tmp 77) (.tmp 79) 23 rfl w7.heap.size 30 i0 _ 2 16 Try.underlying23 I1.out I2.out I3.out I4.out rfl (by decide) v8 (0 + n) _ (by simp [Act.eval, Act.put]) (own8.alloc (.cells #[.int .i64 s.t, .int .i64 s.v] 30)) _ (some ⟨w8.heap.size, 0, none⟩) 1 1 s.enc (by simp [Act.eval, Act.put]) (Rd.new w8 #[.int .i64 s.t, .int .i64 s.v] 30 2 1 rfl) (fun h => by cases h) (by simp [Smp.enc, Value.oneCell']) (by simp only [maxLen]; omega) (by omega) (by have := B8.size; simp; omega) ?_
                 intro v9 w9 own9 g9 at9
                 have B9 : Below w7.heap.size w7 w9 := (B8.alloc B8.size _).grown g9 (by have := B8.size; simp; omega) (fun g hg => (own8.block g hg).1)
                 have K9 : w9.cell? ⟨w.heap.size, 1, none⟩ = some (.slice (none : Option Addr) n c) ∧ w9.cell? ⟨w.heap.size + 1, 0, none⟩ = some (.int .i64 s.t) ∧ w9.cell? ⟨w.heap.size + 1, 1, none⟩ = some (.int .i64 s.v) := ⟨cell_after B9 hc1, cell_after B9 hd0, cell_after B9 hd1⟩)
              | (refine step_append_rd _ rfl (.tmp 77) (.tmp 79) 23 rfl w7.heap.size 30 i0 _ 2 16 Try.underlying23 I1.out I2.out I3.out I4.out rfl (by decide) v8 (0 + n) _ (by simp [Act.eval, Act.put]) own8 _ _ 1 1 s.enc (by simp [Act.eval, Act.put]) RD8.out (fun h => by cases h) (by simp [Smp.enc, Value.oneCell']) (by simp only [maxLen]; omega) (by omega) B8.size ?_
                 intro v9 w9 own9 g9 at9
                 have B9 : Below w7.heap.size w7 w9 := B8.grown g9 B8.size (fun g hg => (own8.block g hg).1)
                 have K9 : w9.cell? ⟨w.heap.size, 1, none⟩ = some (.slice (none : Option Addr) n c) ∧ w9.cell? ⟨w.heap.size + 1, 0, none⟩ = some (.int .i64 s.t) ∧ w9.cell? ⟨w.heap.size + 1, 1, none⟩ = some (.int .i64 s.v) := ⟨cell_after B9 hc1, cell_after B9 hd0, cell_after B9 hd1⟩)
              | fail)
          all_goals
            have BW : Below w.heap.size w w9 := below_after BEL.out B9 (by omega)
            have RD9 : Hid (Rd w9 w9.heap.size 2 none 0 ((xs.drop n).flatMap Smp.enc)) := Lib.hid (by rw [List.drop_eq_nil_of_le (by rw [L.out]; omega)]; exact Rd.nil_ _ _ _ _)
            have OW9 := Lib.hid own9
            have B9H := Lib.hid B9
            have LT7 := Lib.hid lt7
            clear own9 B9 BW K9 K8
            have PB9 := PB.out.keep B9H.out
            clear hc0 hc1 hd0 hd1 hr0 hr1 hg0 hg1
            have hc0 := PB9.c0
            have hc1 := PB9.c1
            have hf1 := PB9.f1
            clear PB9
          all_goals
            go_wp2_with (at_builtin; refine wpList_append_rd _ rfl (.tmp 81) (.tmp 85) 23 rfl w7.heap.size 30 i0 _ 2 16 Try.underlying23 I1.out I2.out I3.out I4.out rfl (by decide) v9 (0 + n + 1) _ rfl OW9.out _ none 0 (c - n) ((xs.drop n).flatMap Smp.enc) rfl RD9.out (fun _ => by have := NN.out; omega) (enc_one _) (by simp only [maxLen]; omega) (by omega) B9H.out.size ?_; intro v10 w10 own10 g10 at10; rw [show 0 + n + 1 + 0 = n + 1 by omega] at own10; obtain ⟨A10, c10, rfl, q1, q2, q3⟩ := own10.form; have FM := Lib.hid (And.intro q1 (And.intro q2 q3)); clear q1 q2 q3 at10; have B10 : Below w7.heap.size w7 w10 := (B9H.out.grown g10 B9H.out.size (fun g hg => (OW9.out.block g hg).1)); have PB10 := PB.out.keep B10; clear hc0 hc1 hf1; have hc0 := PB10.c0; have hc1 := PB10.c1; have hf1 := PB10.f1; have hr0 := PB10.r0; have hr1 := PB10.r1; have hg0 := PB10.g0; have hg1 := PB10.g1; clear PB10)
          all_goals
            have own10' : Own w10 w7.heap.size 30 2 (.slice A10 (n + 1) c10) (n + 1) ((xs.take n ++ s :: xs.drop n).flatMap Smp.enc) := by
              have e : (xs.take n ++ s :: xs.drop n).flatMap Smp.enc = [] ++ (xs.take n).flatMap Smp.enc ++ s.enc ++ (xs.drop n).flatMap Smp.enc := by
                rw [List.flatMap_append, List.flatMap_cons, List.nil_append, List.append_assoc]
              rw [e]
              exact own10
            have P8 := put8 PB.out BEL.out B10 own10' (Nat.le_refl _) (by rw [List.length_append, List.length_cons, List.length_take, List.length_drop, L.out]; omega) FM.out
            generalize w10.setCell ⟨w.heap.size, 1, none⟩ (.slice A10 (n + 1) c10) = w11 at P8 ⊢
            obtain ⟨k0, k1⟩ := out_two (.int .i64 z) (.slice A10 (n + 1) c10) P8.r0 P8.r1
            have G9 := P8.done (.int .i64 z) (.slice A10 (n + 1) c10)
            have hlen : (xs.take n ++ s :: xs.drop n).length = n + 1 := P8.len
            generalize ((w11.setCell ⟨w.heap.size + 1 + 1, 0, none⟩ (.int .i64 z)).setCell ⟨w.heap.size + 1 + 1, 1, none⟩ (.slice A10 (n + 1) c10)) = w12 at k0 k1 G9 ⊢
            refine bodyPost_ret (v := .tuple #[.agg #[.int .i64 z, .slice A10 (n + 1) c10], .int .i64 0]) (by simp [results, Try.results12, go_sem, k0, k1]) rfl ?_
            rw [E1.out, E2.out]
            exact ⟨A10, c10, by rw [hlen], by rw [hlen]; exact G9.1, G9.2⟩
        | some a =>
          by_cases hck : c = n
          · obtain rfl : n = c := hck.symm
            go_wp2_with fail
            go_quiet (fail)
            have PB6 : Hid (PutB w.heap.size z (.slice ((some a) : Option Addr) n n) s (wr.drewN nq)) := Lib.hid (PB.out.keep (below_drewN (Below.refl _ _) _))
            have b6 : Below w.heap.size w (wr.drewN nq) := below_drewN b5 _
            clear PB b5
            have PB := PB6
            have b5 := b6
            clear PB6 b6
            generalize wr.drewN nq = w6 at PB b5 ⊢
            clear hc0 hc1 hd0 hd1 hr0 hr1 hg0 hg1
            have hc0 := PB.out.c0
            have hc1 := PB.out.c1
            have hd0 := PB.out.d0
            have hd1 := PB.out.d1
            have hr0 := PB.out.r0
            have hr1 := PB.out.r1
            have hg0 := PB.out.g0
            have hg1 := PB.out.g1
            have m2 : ¬ (64 : Int) ≤ (n : Int) := by omega
            have m3 : n < 64 := by omega
            have E1 : Hid (putL z xs s = xs.take n ++ s :: xs.drop n) := Lib.hid (by unfold putL; rw [if_neg (by omega), if_neg (by rw [HH.out]; simp), if_neg (by rw [L.out]; omega)]; unfold ins; rw [HP.out])
            have E2 : Hid (putC z xs s = 0) := Lib.hid (by unfold putC; rw [if_neg (by omega), if_neg (by rw [HH.out]; simp), if_neg (by rw [L.out]; omega)])
            go_wp2_with fail
            go_quiet (fail)
            have PB6 : Hid (PutB w.heap.size z (.slice ((some a) : Option Addr) n n) s (w6.drewN nq)) := Lib.hid (PB.out.keep (below_drewN (Below.refl _ _) _))
            have b6 : Below w.heap.size w (w6.drewN nq) := below_drewN b5 _
            clear PB b5
            have PB := PB6
            have b5 := b6
            clear PB6 b6
            generalize w6.drewN nq = w7 at PB b5 ⊢
            clear hc0 hc1 hd0 hd1 hr0 hr1 hg0 hg1
            have hc0 := PB.out.c0
            have hc1 := PB.out.c1
            have hd0 := PB.out.d0
            have hd1 := PB.out.d1
            have hr0 := PB.out.r0
            have hr1 := PB.out.r1
            have hg0 := PB.out.g0
            have hg1 := PB.out.g1
            have lt7 := PB.out.lt
            have hsz7 : w.heap.size ≤ w7.heap.size := by omega
            have hz17 : w.heap.size < w7.heap.size := by omega
            have hz27 : w.heap.size + 1 < w7.heap.size := by omega
            have hnc : n ≤ n := H.out.le
            have hkc : (n : Int) ≤ (n : Int) := by omega
            have hcm : n ≤ maxLen := H.out.cap
            unfold maxLen at hcm
            have RK : Hid (∀ W : World, Below w.heap.size w W → Rd W W.heap.size 2 (some a) n ((xs.take n).flatMap Smp.enc)) := Lib.hid (fun W hW => (H.out.rd.take (show n ≤ n by omega)).2.after hW)
            have NILK : Hid (((some a) : Option Addr) = none → n = 0) := Lib.hid (fun h => (H.out.nil h).2)
            obtain ⟨i0, hi, hz0, hz1, hzb⟩ := info_parts smp_info
            have I1 := Lib.hid hi
            have I2 := Lib.hid hz0
            have I3 := Lib.hid hz1
            have I4 := Lib.hid hzb
            clear hi hz0 hz1 hzb
            have BEL := Lib.hid b5
            have O2W : Hid (Own ((w7.drew.alloc (.cells #[] 30)).alloc (.cells #[.int .i64 s.t, .int .i64 s.v] 30)) w7.heap.size 30 2 (.slice (some ⟨w7.heap.size, 0, none⟩) 0 0) 0 []) := Lib.hid ((Own.built w7.drew 30 2).alloc _)
            have O3W : Hid (Own ((w7.drew.alloc (.cells #[.int .i64 s.t, .int .i64 s.v] 30)).alloc (.cells #[] 30)) w7.heap.size 30 2 (.slice (some ⟨w7.heap.size + 1, 0, none⟩) 0 0) 0 []) := Lib.hid (Own.base_ (base := (w7.drew.alloc (.cells #[.int .i64 s.t, .int .i64 s.v] 30)).heap.size) (by have := Own.built (w7.drew.alloc (.cells #[.int .i64 s.t, .int .i64 s.v] 30)) 30 2; simpa using this) (fun g hg => by simp [Value.ownBlock] at hg; omega))
            have B2W : Hid (w7.heap.size ≤ ((w7.drew.alloc (.cells #[] 30)).alloc (.cells #[.int .i64 s.t, .int .i64 s.v] 30)).heap.size ∧ w7.heap.size ≤ ((w7.drew.alloc (.cells #[.int .i64 s.t, .int .i64 s.v] 30)).alloc (.cells #[] 30)).heap.size) := Lib.hid ⟨by simp; omega, by simp; omega⟩
            go_wp2_with fail
            go_region_held3 (fun w' => w'.cell? ⟨w.heap.size, 1, none⟩ = some (.slice ((some a) : Option Addr) n n) ∧ w'.cell? ⟨w.heap.size + 1, 0, none⟩ = some (.int .i64 s.t) ∧ w'.cell? ⟨w.heap.size + 1, 1, none⟩ = some (.int .i64 s.v))
              (first | exact K8 | exact K9 | go_keep)
              (first
                | (refine step_append_rd _ rfl (.tmp 72) (.tmp 76) 23 rfl w7.heap.size 30 i0 _ 2 16 Try.underlying23 I1.out I2.out I3.out I4.out rfl (by decide) (.slice (some ⟨w7.heap.size, 0, none⟩) 0 0) 0 [] (by simp [Act.eval, Act.put]) (Own.built w7.drew 30 2) _ (some a) n n ((xs.take n).flatMap Smp.enc) (by simp [Act.eval, Act.put]) (RK.out _ (by go_grown)) NILK.out (enc_one _) (by simp only [maxLen]; omega) (by omega) (by simp) ?_
                   intro v8 w8 own8 g8 at8
                   have B8 : Below w7.heap.size w7 w8 := Below.grown (by go_grown) g8 (by simp) (fun g hg => by simp [Value.ownBlock] at hg; omega)
                   have K8 : w8.cell? ⟨w.heap.size, 1, none⟩ = some (.slice ((some a) : Option Addr) n n) ∧ w8.cell? ⟨w.heap.size + 1, 0, none⟩ = some (.int .i64 s.t) ∧ w8.cell? ⟨w.heap.size + 1, 1, none⟩ = some (.int .i64 s.v) := ⟨cell_after B8 hc1, cell_after B8 hd0, cell_after B8 hd1⟩)
                | (refine step_append_rd _ rfl (.tmp 72) (.tmp 76) 23 rfl w7.heap.size 30 i0 _ 2 16 Try.underlying23 I1.out I2.out I3.out I4.out rfl (by decide) (.slice (some ⟨w7.heap.size, 0, none⟩) 0 0) 0 [] (by simp [Act.eval, Act.put]) O2W.out _ (some a) n n ((xs.take n).flatMap Smp.enc) (by simp [Act.eval, Act.put]) (RK.out _ (by go_grown)) NILK.out (enc_one _) (by simp only [maxLen]; omega) (by omega) B2W.out.1 ?_
                   intro v8 w8 own8 g8 at8
                   have B8 : Below w7.heap.size w7 w8 := Below.grown (by go_grown) g8 (by first | exact B2W.out.1 | exact B2W.out.2) (fun g hg => by simp [Value.ownBlock] at hg; omega)
                   have K8 : w8.cell? ⟨w.heap.size, 1, none⟩ = some (.slice ((some a) : Option Addr) n n) ∧ w8.cell? ⟨w.heap.size + 1, 0, none⟩ = some (.int .i64 s.t) ∧ w8.cell? ⟨w.heap.size + 1, 1, none⟩ = some (.int .i64 s.v) := ⟨cell_after B8 hc1, cell_after B8 hd0, cell_after B8 hd1⟩
                   have RD8 : Hid (Rd w8 w8.heap.size 2 (some ⟨w7.heap.size + 1, 0, none⟩) 1 s.enc) := Lib.hid ⟨rfl, fun _ => by
                     have hh : w8.heap[w7.heap.size + 1]? = some (.cells s.enc.toArray 30 (0, 0)) := (g8.block _ (by simp only [World.size_alloc, World.size_drew]; omega) (by simp [Value.ownBlock])).trans (heap_at _ _ _ (by simp))
                     exact ⟨w7.heap.size + 1, 0, rfl, (Array.getElem?_eq_some_iff.1 hh).1, fun j u hu => by rw [cell_of_row w8 _ (0 + j) _ 30 (0, 0) hh]; simpa using hu⟩⟩)
                | (refine step_append_rd _ rfl (.tmp 72) (.tmp 76) 23 rfl w7.heap.size 30 i0 _ 2 16 Try.underlying23 I1.out I2.out I3.out I4.out rfl (by decide) (.slice (some ⟨w7.heap.size + 1, 0, none⟩) 0 0) 0 [] (by simp [Act.eval, Act.put]) O3W.out _ (some a) n n ((xs.take n).flatMap Smp.enc) (by simp [Act.eval, Act.put]) (RK.out _ (by go_grown)) NILK.out (enc_one _) (by simp only [maxLen]; omega) (by omega) B2W.out.2 ?_
                   intro v8 w8 own8 g8 at8
                   have B8 : Below w7.heap.size w7 w8 := Below.grown (by go_grown) g8 (by first | exact B2W.out.1 | exact B2W.out.2) (fun g hg => by simp [Value.ownBlock] at hg; omega)
                   have K8 : w8.cell? ⟨w.heap.size, 1, none⟩ = some (.slice ((some a) : Option Addr) n n) ∧ w8.cell? ⟨w.heap.size + 1, 0, none⟩ = some (.int .i64 s.t) ∧ w8.cell? ⟨w.heap.size + 1, 1, none⟩ = some (.int .i64 s.v) := ⟨cell_after B8 hc1, cell_after B8 hd0, cell_after B8 hd1⟩
                   have RD8 : Hid (Rd w8 w8.heap.size 2 (some ⟨w7.heap.size, 0, none⟩) 1 s.enc) := Lib.hid ⟨rfl, fun _ => by
                     have hh : w8.heap[w7.heap.size]? = some (.cells s.enc.toArray 30 (0, 0)) := (g8.block _ (by simp only [World.size_alloc, World.size_drew]; omega) (by simp [Value.ownBlock])).trans ((heap_old _ _ _ (by simp)).trans (heap_at _ _ _ rfl))
                     exact ⟨w7.heap.size, 0, rfl, (Array.getElem?_eq_some_iff.1 hh).1, fun j u hu => by rw [cell_of_row w8 _ (0 + j) _ 30 (0, 0) hh]; simpa using hu⟩⟩)
                | (refine step_append_rd _ rfl (.tmp 77) (.tmp 79) 23 rfl w7.heap.size 30 i0 _ 2 16 Try.underlying23 I1.out I2.out I3.out I4.out rfl (by decide) v8 (0 + n) _ (by simp [Act.eval, Act.put]) (own8.alloc (.cells #[.int .i64 s.t, .int .i64 s.v] 30)) _ (some ⟨w8.heap.size, 0, none⟩) 1 1 s.enc (by simp [Act.eval, Act.put]) (Rd.new w8 #[.int .i64 s.t, .int .i64 s.v] 30 2 1 rfl) (fun h => by cases h) (by simp [Smp.enc, Value.oneCell']) (by simp only [maxLen]; omega) (by omega) (by have := B8.size; simp; omega) ?_
                   intro v9 w9 own9 g9 at9
                   have B9 : Below w7.heap.size w7 w9 := (B8.alloc B8.size _).grown g9 (by have := B8.size; simp; omega) (fun g hg => (own8.block g hg).1)
                   have K9 : w9.cell? ⟨w.heap.size, 1, none⟩ = some (.slice ((some a) : Option Addr) n n) ∧ w9.cell? ⟨w.heap.size + 1, 0, none⟩ = some (.int .i64 s.t) ∧ w9.cell? ⟨w.heap.size + 1, 1, none⟩ = some (.int .i64 s.v) := ⟨cell_after B9 hc1, cell_after B9 hd0, cell_after B9 hd1⟩)
                | (refine step_append_rd _ rfl (.tmp 77) (.tmp 79) 23 rfl w7.heap.size 30 i0 _ 2 16 Try.underlying23 I1.out I2.out I3.out I4.out rfl (by decide) v8 (0 + n) _ (by simp [Act.eval, Act.put]) own8 _ _ 1 1 s.enc (by simp [Act.eval, Act.put]) RD8.out (fun h => by cases h) (by simp [Smp.enc, Value.oneCell']) (by simp only [maxLen]; omega) (by omega) B8.size ?_
                   intro v9 w9 own9 g9 at9
                   have B9 : Below w7.heap.size w7 w9 := B8.grown g9 B8.size (fun g hg => (own8.block g hg).1)
                   have K9 : w9.cell? ⟨w.heap.size, 1, none⟩ = some (.slice ((some a) : Option Addr) n n) ∧ w9.cell? ⟨w.heap.size + 1, 0, none⟩ = some (.int .i64 s.t) ∧ w9.cell? ⟨w.heap.size + 1, 1, none⟩ = some (.int .i64 s.v) := ⟨cell_after B9 hc1, cell_after B9 hd0, cell_after B9 hd1⟩)
                | fail)
            all_goals
              have BW : Below w.heap.size w w9 := below_after BEL.out B9 (by omega)
              have RD9 : Hid (Rd w9 w9.heap.size 2 (some a) 0 ((xs.drop n).flatMap Smp.enc)) := Lib.hid (by rw [List.drop_eq_nil_of_le (by rw [L.out]; omega)]; exact Rd.nil_ _ _ _ _)
              have OW9 := Lib.hid own9
              have B9H := Lib.hid B9
              have LT7 := Lib.hid lt7
              clear own9 B9 BW K9 K8
              have PB9 := PB.out.keep B9H.out
              clear hc0 hc1 hd0 hd1 hr0 hr1 hg0 hg1
              have hc0 := PB9.c0
              have hc1 := PB9.c1
              have hf1 := PB9.f1
              clear PB9
            all_goals
              go_wp2_with (at_builtin; refine wpList_append_rd _ rfl (.tmp 81) (.tmp 85) 23 rfl w7.heap.size 30 i0 _ 2 16 Try.underlying23 I1.out I2.out I3.out I4.out rfl (by decide) v9 (0 + n + 1) _ rfl OW9.out _ (some a) 0 0 ((xs.drop n).flatMap Smp.enc) rfl RD9.out (fun h => by cases h) (enc_one _) (by simp only [maxLen]; omega) (by omega) B9H.out.size ?_; intro v10 w10 own10 g10 at10; rw [show 0 + n + 1 + 0 = n + 1 by omega] at own10; obtain ⟨A10, c10, rfl, q1, q2, q3⟩ := own10.form; have FM := Lib.hid (And.intro q1 (And.intro q2 q3)); clear q1 q2 q3 at10; have B10 : Below w7.heap.size w7 w10 := (B9H.out.grown g10 B9H.out.size (fun g hg => (OW9.out.block g hg).1)); have PB10 := PB.out.keep B10; clear hc0 hc1 hf1; have hc0 := PB10.c0; have hc1 := PB10.c1; have hf1 := PB10.f1; have hr0 := PB10.r0; have hr1 := PB10.r1; have hg0 := PB10.g0; have hg1 := PB10.g1; clear PB10)
            all_goals
              have own10' : Own w10 w7.heap.size 30 2 (.slice A10 (n + 1) c10) (n + 1) ((xs.take n ++ s :: xs.drop n).flatMap Smp.enc) := by
                have e : (xs.take n ++ s :: xs.drop n).flatMap Smp.enc = [] ++ (xs.take n).flatMap Smp.enc ++ s.enc ++ (xs.drop n).flatMap Smp.enc := by
                  rw [List.flatMap_append, List.flatMap_cons, List.nil_append, List.append_assoc]
                rw [e]
                exact own10
              have P8 := put8 PB.out BEL.out B10 own10' (Nat.le_refl _) (by rw [List.length_append, List.length_cons, List.length_take, List.length_drop, L.out]; omega) FM.out
              generalize w10.setCell ⟨w.heap.size, 1, none⟩ (.slice A10 (n + 1) c10) = w11 at P8 ⊢
              obtain ⟨k0, k1⟩ := out_two (.int .i64 z) (.slice A10 (n + 1) c10) P8.r0 P8.r1
              have G9 := P8.done (.int .i64 z) (.slice A10 (n + 1) c10)
              have hlen : (xs.take n ++ s :: xs.drop n).length = n + 1 := P8.len
              generalize ((w11.setCell ⟨w.heap.size + 1 + 1, 0, none⟩ (.int .i64 z)).setCell ⟨w.heap.size + 1 + 1, 1, none⟩ (.slice A10 (n + 1) c10)) = w12 at k0 k1 G9 ⊢
              refine bodyPost_ret (v := .tuple #[.agg #[.int .i64 z, .slice A10 (n + 1) c10], .int .i64 0]) (by simp [results, Try.results12, go_sem, k0, k1]) rfl ?_
              rw [E1.out, E2.out]
              exact ⟨A10, c10, by rw [hlen], by rw [hlen]; exact G9.1, G9.2⟩
          · go_wp2_with fail
            go_quiet (fail)
            have PB6 : Hid (PutB w.heap.size z (.slice ((some a) : Option Addr) n c) s (wr.drewN nq)) := Lib.hid (PB.out.keep (below_drewN (Below.refl _ _) _))
            have b6 : Below w.heap.size w (wr.drewN nq) := below_drewN b5 _
            clear PB b5
            have PB := PB6
            have b5 := b6
            clear PB6 b6
            generalize wr.drewN nq = w6 at PB b5 ⊢
            clear hc0 hc1 hd0 hd1 hr0 hr1 hg0 hg1
            have hc0 := PB.out.c0
            have hc1 := PB.out.c1
            have hd0 := PB.out.d0
            have hd1 := PB.out.d1
            have hr0 := PB.out.r0
            have hr1 := PB.out.r1
            have hg0 := PB.out.g0
            have hg1 := PB.out.g1
            have m2 : ¬ (64 : Int) ≤ (n : Int) := by omega
            have m3 : n < 64 := by omega
            have E1 : Hid (putL z xs s = xs.take n ++ s :: xs.drop n) := Lib.hid (by unfold putL; rw [if_neg (by omega), if_neg (by rw [HH.out]; simp), if_neg (by rw [L.out]; omega)]; unfold ins; rw [HP.out])
            have E2 : Hid (putC z xs s = 0) := Lib.hid (by unfold putC; rw [if_neg (by omega), if_neg (by rw [HH.out]; simp), if_neg (by rw [L.out]; omega)])
            go_wp2_with fail
            go_quiet (fail)
            have PB6 : Hid (PutB w.heap.size z (.slice ((some a) : Option Addr) n c) s (w6.drewN nq)) := Lib.hid (PB.out.keep (below_drewN (Below.refl _ _) _))
            have b6 : Below w.heap.size w (w6.drewN nq) := below_drewN b5 _
            clear PB b5
            have PB := PB6
            have b5 := b6
            clear PB6 b6
            generalize w6.drewN nq = w7 at PB b5 ⊢
            clear hc0 hc1 hd0 hd1 hr0 hr1 hg0 hg1
            have hc0 := PB.out.c0
            have hc1 := PB.out.c1
            have hd0 := PB.out.d0
            have hd1 := PB.out.d1
            have hr0 := PB.out.r0
            have hr1 := PB.out.r1
            have hg0 := PB.out.g0
            have hg1 := PB.out.g1
            have lt7 := PB.out.lt
            have hsz7 : w.heap.size ≤ w7.heap.size := by omega
            have hz17 : w.heap.size < w7.heap.size := by omega
            have hz27 : w.heap.size + 1 < w7.heap.size := by omega
            have hnc : n ≤ c := H.out.le
            have hkc : (n : Int) ≤ (c : Int) := by omega
            have hcm : c ≤ maxLen := H.out.cap
            unfold maxLen at hcm
            have RK : Hid (∀ W : World, Below w.heap.size w W → Rd W W.heap.size 2 (some a) n ((xs.take n).flatMap Smp.enc)) := Lib.hid (fun W hW => (H.out.rd.take (show n ≤ n by omega)).2.after hW)
            have NILK : Hid (((some a) : Option Addr) = none → c = 0) := Lib.hid (fun h => (H.out.nil h).2)
            obtain ⟨i0, hi, hz0, hz1, hzb⟩ := info_parts smp_info
            have I1 := Lib.hid hi
            have I2 := Lib.hid hz0
            have I3 := Lib.hid hz1
            have I4 := Lib.hid hzb
            clear hi hz0 hz1 hzb
            have BEL := Lib.hid b5
            have O2W : Hid (Own ((w7.drew.alloc (.cells #[] 30)).alloc (.cells #[.int .i64 s.t, .int .i64 s.v] 30)) w7.heap.size 30 2 (.slice (some ⟨w7.heap.size, 0, none⟩) 0 0) 0 []) := Lib.hid ((Own.built w7.drew 30 2).alloc _)
            have O3W : Hid (Own ((w7.drew.alloc (.cells #[.int .i64 s.t, .int .i64 s.v] 30)).alloc (.cells #[] 30)) w7.heap.size 30 2 (.slice (some ⟨w7.heap.size + 1, 0, none⟩) 0 0) 0 []) := Lib.hid (Own.base_ (base := (w7.drew.alloc (.cells #[.int .i64 s.t, .int .i64 s.v] 30)).heap.size) (by have := Own.built (w7.drew.alloc (.cells #[.int .i64 s.t, .int .i64 s.v] 30)) 30 2; simpa using this) (fun g hg => by simp [Value.ownBlock] at hg; omega))
            have B2W : Hid (w7.heap.size ≤ ((w7.drew.alloc (.cells #[] 30)).alloc (.cells #[.int .i64 s.t, .int .i64 s.v] 30)).heap.size ∧ w7.heap.size ≤ ((w7.drew.alloc (.cells #[.int .i64 s.t, .int .i64 s.v] 30)).alloc (.cells #[] 30)).heap.size) := Lib.hid ⟨by simp; omega, by simp; omega⟩
            go_wp2_with fail
            go_region_held3 (fun w' => w'.cell? ⟨w.heap.size, 1, none⟩ = some (.slice ((some a) : Option Addr) n c) ∧ w'.cell? ⟨w.heap.size + 1, 0, none⟩ = some (.int .i64 s.t) ∧ w'.cell? ⟨w.heap.size + 1, 1, none⟩ = some (.int .i64 s.v))
              (first | exact K8 | exact K9 | go_keep)
              (first
                | (refine step_append_rd _ rfl (.tmp 72) (.tmp 76) 23 rfl w7.heap.size 30 i0 _ 2 16 Try.underlying23 I1.out I2.out I3.out I4.out rfl (by decide) (.slice (some ⟨w7.heap.size, 0, none⟩) 0 0) 0 [] (by simp [Act.eval, Act.put]) (Own.built w7.drew 30 2) _ (some a) n c ((xs.take n).flatMap Smp.enc) (by simp [Act.eval, Act.put]) (RK.out _ (by go_grown)) NILK.out (enc_one _) (by simp only [maxLen]; omega) (by omega) (by simp) ?_
                   intro v8 w8 own8 g8 at8
                   have B8 : Below w7.heap.size w7 w8 := Below.grown (by go_grown) g8 (by simp) (fun g hg => by simp [Value.ownBlock] at hg; omega)
                   have K8 : w8.cell? ⟨w.heap.size, 1, none⟩ = some (.slice ((some a) : Option Addr) n c) ∧ w8.cell? ⟨w.heap.size + 1, 0, none⟩ = some (.int .i64 s.t) ∧ w8.cell? ⟨w.heap.size + 1, 1, none⟩ = some (.int .i64 s.v) := ⟨cell_after B8 hc1, cell_after B8 hd0, cell_after B8 hd1⟩)
                | (refine step_append_rd _ rfl (.tmp 72) (.tmp 76) 23 rfl w7.heap.size 30 i0 _ 2 16 Try.underlying23 I1.out I2.out I3.out I4.out rfl (by decide) (.slice (some ⟨w7.heap.size, 0, none⟩) 0 0) 0 [] (by simp [Act.eval, Act.put]) O2W.out _ (some a) n c ((xs.take n).flatMap Smp.enc) (by simp [Act.eval, Act.put]) (RK.out _ (by go_grown)) NILK.out (enc_one _) (by simp only [maxLen]; omega) (by omega) B2W.out.1 ?_
                   intro v8 w8 own8 g8 at8
                   have B8 : Below w7.heap.size w7 w8 := Below.grown (by go_grown) g8 (by first | exact B2W.out.1 | exact B2W.out.2) (fun g hg => by simp [Value.ownBlock] at hg; omega)
                   have K8 : w8.cell? ⟨w.heap.size, 1, none⟩ = some (.slice ((some a) : Option Addr) n c) ∧ w8.cell? ⟨w.heap.size + 1, 0, none⟩ = some (.int .i64 s.t) ∧ w8.cell? ⟨w.heap.size + 1, 1, none⟩ = some (.int .i64 s.v) := ⟨cell_after B8 hc1, cell_after B8 hd0, cell_after B8 hd1⟩
                   have RD8 : Hid (Rd w8 w8.heap.size 2 (some ⟨w7.heap.size + 1, 0, none⟩) 1 s.enc) := Lib.hid ⟨rfl, fun _ => by
                     have hh : w8.heap[w7.heap.size + 1]? = some (.cells s.enc.toArray 30 (0, 0)) := (g8.block _ (by simp only [World.size_alloc, World.size_drew]; omega) (by simp [Value.ownBlock])).trans (heap_at _ _ _ (by simp))
                     exact ⟨w7.heap.size + 1, 0, rfl, (Array.getElem?_eq_some_iff.1 hh).1, fun j u hu => by rw [cell_of_row w8 _ (0 + j) _ 30 (0, 0) hh]; simpa using hu⟩⟩)
                | (refine step_append_rd _ rfl (.tmp 72) (.tmp 76) 23 rfl w7.heap.size 30 i0 _ 2 16 Try.underlying23 I1.out I2.out I3.out I4.out rfl (by decide) (.slice (some ⟨w7.heap.size + 1, 0, none⟩) 0 0) 0 [] (by simp [Act.eval, Act.put]) O3W.out _ (some a) n c ((xs.take n).flatMap Smp.enc) (by simp [Act.eval, Act.put]) (RK.out _ (by go_grown)) NILK.out (enc_one _) (by simp only [maxLen]; omega) (by omega) B2W.out.2 ?_
                   intro v8 w8 own8 g8 at8
                   have B8 : Below w7.heap.size w7 w8 := Below.grown (by go_grown) g8 (by first | exact B2W.out.1 | exact B2W.out.2) (fun g hg => by simp [Value.ownBlock] at hg; omega)
                   have K8 : w8.cell? ⟨w.heap.size, 1, none⟩ = some (.slice ((some a) : Option Addr) n c) ∧ w8.cell? ⟨w.heap.size + 1, 0, none⟩ = some (.int .i64 s.t) ∧ w8.cell? ⟨w.heap.size + 1, 1, none⟩ = some (.int .i64 s.v) := ⟨cell_after B8 hc1, cell_after B8 hd0, cell_after B8 hd1⟩
                   have RD8 : Hid (Rd w8 w8.heap.size 2 (some ⟨w7.heap.size, 0, none⟩) 1 s.enc) := Lib.hid ⟨rfl, fun _ => by
                     have hh : w8.heap[w7.heap.size]? = some (.cells s.enc.toArray 30 (0, 0)) := (g8.block _ (by simp only [World.size_alloc, World.size_drew]; omega) (by simp [Value.ownBlock])).trans ((heap_old _ _ _ (by simp)).trans (heap_at _ _ _ rfl))
                     exact ⟨w7.heap.size, 0, rfl, (Array.getElem?_eq_some_iff.1 hh).1, fun j u hu => by rw [cell_of_row w8 _ (0 + j) _ 30 (0, 0) hh]; simpa using hu⟩⟩)
                | (refine step_append_rd _ rfl (.tmp 77) (.tmp 79) 23 rfl w7.heap.size 30 i0 _ 2 16 Try.underlying23 I1.out I2.out I3.out I4.out rfl (by decide) v8 (0 + n) _ (by simp [Act.eval, Act.put]) (own8.alloc (.cells #[.int .i64 s.t, .int .i64 s.v] 30)) _ (some ⟨w8.heap.size, 0, none⟩) 1 1 s.enc (by simp [Act.eval, Act.put]) (Rd.new w8 #[.int .i64 s.t, .int .i64 s.v] 30 2 1 rfl) (fun h => by cases h) (by simp [Smp.enc, Value.oneCell']) (by simp only [maxLen]; omega) (by omega) (by have := B8.size; simp; omega) ?_
                   intro v9 w9 own9 g9 at9
                   have B9 : Below w7.heap.size w7 w9 := (B8.alloc B8.size _).grown g9 (by have := B8.size; simp; omega) (fun g hg => (own8.block g hg).1)
                   have K9 : w9.cell? ⟨w.heap.size, 1, none⟩ = some (.slice ((some a) : Option Addr) n c) ∧ w9.cell? ⟨w.heap.size + 1, 0, none⟩ = some (.int .i64 s.t) ∧ w9.cell? ⟨w.heap.size + 1, 1, none⟩ = some (.int .i64 s.v) := ⟨cell_after B9 hc1, cell_after B9 hd0, cell_after B9 hd1⟩)
                | (refine step_append_rd _ rfl (.tmp 77) (.tmp 79) 23 rfl w7.heap.size 30 i0 _ 2 16 Try.underlying23 I1.out I2.out I3.out I4.out rfl (by decide) v8 (0 + n) _ (by simp [Act.eval, Act.put]) own8 _ _ 1 1 s.enc (by simp [Act.eval, Act.put]) RD8.out (fun h => by cases h) (by simp [Smp.enc, Value.oneCell']) (by simp only [maxLen]; omega) (by omega) B8.size ?_
                   intro v9 w9 own9 g9 at9
                   have B9 : Below w7.heap.size w7 w9 := B8.grown g9 B8.size (fun g hg => (own8.block g hg).1)
                   have K9 : w9.cell? ⟨w.heap.size, 1, none⟩ = some (.slice ((some a) : Option Addr) n c) ∧ w9.cell? ⟨w.heap.size + 1, 0, none⟩ = some (.int .i64 s.t) ∧ w9.cell? ⟨w.heap.size + 1, 1, none⟩ = some (.int .i64 s.v) := ⟨cell_after B9 hc1, cell_after B9 hd0, cell_after B9 hd1⟩)
                | fail)
            all_goals
              have BW : Below w.heap.size w w9 := below_after BEL.out B9 (by omega)
              have RD9 : Hid (Rd w9 w9.heap.size 2 (some (a.add (n * 2))) 0 ((xs.drop n).flatMap Smp.enc)) := Lib.hid (by rw [List.drop_eq_nil_of_le (by rw [L.out]; omega)]; exact Rd.nil_ _ _ _ _)
              have OW9 := Lib.hid own9
              have B9H := Lib.hid B9
              have LT7 := Lib.hid lt7
              clear own9 B9 BW K9 K8
              have PB9 := PB.out.keep B9H.out
              clear hc0 hc1 hd0 hd1 hr0 hr1 hg0 hg1
              have hc0 := PB9.c0
              have hc1 := PB9.c1
              have hf1 := PB9.f1
              clear PB9
            all_goals
              go_wp2_with (at_builtin; refine wpList_append_rd _ rfl (.tmp 81) (.tmp 85) 23 rfl w7.heap.size 30 i0 _ 2 16 Try.underlying23 I1.out I2.out I3.out I4.out rfl (by decide) v9 (0 + n + 1) _ rfl OW9.out _ (some (a.add (n * 2))) 0 (c - n) ((xs.drop n).flatMap Smp.enc) rfl RD9.out (fun h => by cases h) (enc_one _) (by simp only [maxLen]; omega) (by omega) B9H.out.size ?_; intro v10 w10 own10 g10 at10; rw [show 0 + n + 1 + 0 = n + 1 by omega] at own10; obtain ⟨A10, c10, rfl, q1, q2, q3⟩ := own10.form; have FM := Lib.hid (And.intro q1 (And.intro q2 q3)); clear q1 q2 q3 at10; have B10 : Below w7.heap.size w7 w10 := (B9H.out.grown g10 B9H.out.size (fun g hg => (OW9.out.block g hg).1)); have PB10 := PB.out.keep B10; clear hc0 hc1 hf1; have hc0 := PB10.c0; have hc1 := PB10.c1; have hf1 := PB10.f1; have hr0 := PB10.r0; have hr1 := PB10.r1; have hg0 := PB10.g0; have hg1 := PB10.g1; clear PB10)
            all_goals
              have own10' : Own w10 w7.heap.size 30 2 (.slice A10 (n + 1) c10) (n + 1) ((xs.take n ++ s :: xs.drop n).flatMap Smp.enc) := by
                have e : (xs.take n ++ s :: xs.drop n).flatMap Smp.enc = [] ++ (xs.take n).flatMap Smp.enc ++ s.enc ++ (xs.drop n).flatMap Smp.enc := by
                  rw [List.flatMap_append, List.flatMap_cons, List.nil_append, List.append_assoc]
                rw [e]
                exact own10
              have P8 := put8 PB.out BEL.out B10 own10' (Nat.le_refl _) (by rw [List.length_append, List.length_cons, List.length_take, List.length_drop, L.out]; omega) FM.out
              generalize w10.setCell ⟨w.heap.size, 1, none⟩ (.slice A10 (n + 1) c10) = w11 at P8 ⊢
              obtain ⟨k0, k1⟩ := out_two (.int .i64 z) (.slice A10 (n + 1) c10) P8.r0 P8.r1
              have G9 := P8.done (.int .i64 z) (.slice A10 (n + 1) c10)
              have hlen : (xs.take n ++ s :: xs.drop n).length = n + 1 := P8.len
              generalize ((w11.setCell ⟨w.heap.size + 1 + 1, 0, none⟩ (.int .i64 z)).setCell ⟨w.heap.size + 1 + 1, 1, none⟩ (.slice A10 (n + 1) c10)) = w12 at k0 k1 G9 ⊢
              refine bodyPost_ret (v := .tuple #[.agg #[.int .i64 z, .slice A10 (n + 1) c10], .int .i64 0]) (by simp [results, Try.results12, go_sem, k0, k1]) rfl ?_
              rw [E1.out, E2.out]
              exact ⟨A10, c10, by rw [hlen], by rw [hlen]; exact G9.1, G9.2⟩

theorem refPut_any (z : Int) (A : Option Addr) (n c : Nat) (xs : List Smp) (s : Smp) (w : World) (h : GotS w n xs A c) (ok : Ok z xs) (s0 : 0 ≤ s.t) (s1 : s.t < 1099511627776) :
    Calls Try.prog 12 #[.agg #[.int .i64 z, .slice A n c], .agg #[.int .i64 s.t, .int .i64 s.v]] w (PutS w z (putL z xs s) (putC z xs s)) := by
  by_cases hlt : s.t < z
  · exact refPut_late z A n c xs s w h ok s0 s1 hlt
  · exact refPut_ge z A n c xs s w h ok s0 s1 (by omega)
end Go.Proofs.Ytjimaanleamgjaa
