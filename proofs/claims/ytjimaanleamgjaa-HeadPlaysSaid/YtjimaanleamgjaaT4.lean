import Derived.Test.YtjimaanleamgjaaT3
namespace Go.Proofs.Ytjimaanleamgjaa
open Go.RowKit

theorem flat_mid (xs : List Smp) (i : Nat) (s : Smp) : (xs.take i ++ s :: xs.drop i).flatMap Smp.enc = (xs.flatMap Smp.enc).take (i * 2) ++ (s.enc ++ (xs.flatMap Smp.enc).drop (i * 2)) := by
  rw [flat_take Smp.enc 2 Smp.enc_len, flat_drop Smp.enc 2 Smp.enc_len, List.flatMap_append, List.flatMap_cons]

set_option maxHeartbeats 4000000 in
set_option maxRecDepth 100000 in
/-- slices.Insert(s, i, x), i < len(s), in place. -/
theorem insert_shift (base g off n c i : Nat) (xs : List Smp) (s : Smp) (vb : Nat) (w : World) (hl : xs.length = n) (hi : i < n) (hroom : n + 1 ≤ c)
    (hown : Own w base 30 2 (.slice (some ⟨g, off, none⟩) n c) n (xs.flatMap Smp.enc))
    (hn : n ≤ 64) (hvb : w.heap[vb]? = some (.cells s.enc.toArray 30 (0, 0))) (hne : vb ≠ g) :
    Calls Try.prog 18 #[.slice (some ⟨g, off, none⟩) n c, .int .i64 i, .slice (some ⟨vb, 0, none⟩) 1 1] w (Placed w base (.slice (some ⟨g, off, none⟩) n c) (n + 1) (xs.take i ++ s :: xs.drop i)) := by
  obtain ⟨g', off', cap', cur, hv, hbg, hg, hnc, hcm, hsz, ht⟩ : ∃ g' off' cap' cur, (Value.slice (some ⟨g, off, none⟩) n c) = .slice (some ⟨g', off', none⟩) n cap' ∧ base ≤ g' ∧ w.heap[g']? = some (.cells cur 30 (0, 0)) ∧ n ≤ cap' ∧ cap' ≤ maxLen ∧ off' + cap' * 2 ≤ cur.size ∧ (cur.toList.drop off').take (n * 2) = xs.flatMap Smp.enc := by
    rcases hown.2 with ⟨h0, _⟩ | h
    · cases h0
    · exact h
  injection hv with hA _ hcap
  injection hA with hA
  injection hA with hg' ho'
  subst hg' ho' hcap
  clear hown
  unfold maxLen at hcm
  have hX : (xs.flatMap Smp.enc).length = n * 2 := by rw [flat_len Smp.enc 2 Smp.enc_len, hl]
  obtain ⟨L, hL⟩ : ∃ L : List Value, L = cur.toList := ⟨_, rfl⟩
  have hgL : w.heap[g]? = some (.cells L.toArray 30 (0, 0)) := by rw [hL]; simpa using hg
  have hLs : L.length = cur.size := by rw [hL]; simp
  rw [← hL] at ht
  have hcs : ∀ (W : World) (M : List Value), W.heap[g]? = some (.cells M.toArray 30 (0, 0)) → (M.drop off).take (n * 2) = xs.flatMap Smp.enc → ∀ j u, ((xs.flatMap Smp.enc).drop (i * 2))[j]? = some u → W.cell? ((⟨g, off + i * 2, none⟩ : Addr).add j) = some u := by
    intro W M hW hM j u hu
    rw [Addr.add_lit, cell_of_row W g _ _ 30 (0, 0) hW, ← Array.getElem?_toList]
    rw [← hM, List.getElem?_drop, List.getElem?_take] at hu
    split at hu
    · rw [List.getElem?_drop] at hu
      rw [Nat.add_assoc]
      exact hu
    · cases hu
  obtain ⟨i0, hi0, hz0, hz1, hzb⟩ := info_parts smp_info
  have z30 : ∀ w, (Go.sizeOf 30).run Try.prog w = .ok 2 w := fun w => by simp [sizeOf, typeInfo, hi0, hz1]
  have ov : ∀ lb cb, (callFunc 25 #[.slice (some ⟨vb, 0, none⟩) 1 1, .slice (some ⟨g, off + (i + 1) * 2, none⟩) lb cb]).run Try.prog w = .ok (.value (.bool false)) w := fun lb cb => by
    rw [run_callFunc_extern Try.func25 (by kernel_rfl) (by kernel_rfl) (by kernel_rfl) (e := Extern.SlicesOverlaps.overlaps #[23, 23] #[4]) (by kernel_rfl),
      Lib.run_overlaps_apart w 23 4 30 Try.underlying23 2 z30 ⟨vb, 0, none⟩ ⟨g, off + (i + 1) * 2, none⟩ 1 1 lb cb hne 30 30 2 cur.size
        (by simp [World.shape?, hvb, Smp.enc]) (by simp [World.shape?, hg]) (by omega) (by simp [World.frozen?, hvb]) (by simp [World.frozen?, hvb])]
    rfl
  have hin : i ≤ n := by omega
  have s1 : (Try.prog.info? 30).map (·.size) = some 2 := by kernel_rfl
  have hz2 : ¬ ((i : Int) = (n : Int)) := by omega
  have hw1 : IntKind.i64.wrap ((i : Int) + 1) = (i : Int) + 1 := by rw [IntKind.wrap_i64]; omega
  have hb1 : (0 : Int) ≤ (i : Int) + 1 := by omega
  have htn : ((i : Int) + 1).toNat = i + 1 := by omega
  have hb2 : ¬ (c = i + 1) := by omega
  have hb3 : (i : Int) ≤ (n : Int) + 1 := by omega
  have hb4 : ¬ (c = i) := by omega
  have lD : ((xs.flatMap Smp.enc).drop (i * 2)).length = (n - i) * 2 := by rw [List.length_drop, hX]; omega
  have CS := Lib.hid hcs
  have HT := Lib.hid ht
  have HGL := Lib.hid hgL
  have HX := Lib.hid hX
  have HL := Lib.hid hl
  have LD := Lib.hid lD
  have LS := Lib.hid hLs
  have HV := Lib.hid hvb
  have HG := Lib.hid hg
  clear hcs ht hgL hX hl lD hLs hvb hg hL hz1 hi0 hz0 hzb i0
  go_enter Try.func18, Try.ntmps18
  go_wp2_with (simp only [ov])
  go_region_law (refine step_copy_sz rfl (.tmp 73) (.tmp 76) 23 23 rfl 30 2 Try.underlying23 s1 g (off + (i + 1) * 2) ⟨g, off + i * 2, none⟩ (n + 1 - (i + 1)) (c - (i + 1)) (n + 1 - i) (c - i) (by simp [Act.eval, Act.put]) (by simp [Act.eval, Act.put]) L 30 HGL.out ((xs.flatMap Smp.enc).drop (i * 2)) (by rw [LD.out]; simp only [Nat.min_def]; split <;> omega) (CS.out _ L HGL.out HT.out) (by rw [LD.out, LS.out]; omega) (fun u hu => enc_one xs u (List.mem_of_mem_drop hu)) ?_; intro w2 hg2 gr2)
  have gr2' : w.grownBy w2 (some g) := ⟨gr2.os, gr2.tape, gr2.output, gr2.size, gr2.block⟩
  have hv2 : w2.heap[vb]? = some (.cells s.enc.toArray 30 (0, 0)) := (gr2'.block vb (Array.getElem?_eq_some_iff.1 HV.out).1 (fun e => by injection e with e; exact hne e)).trans HV.out
  have HV2 := Lib.hid hv2
  have GR := Lib.hid gr2'
  clear gr2 gr2' hv2
  have f1 : s.enc.length = Nat.min 1 (n + 1 - i) * 2 := by rw [Smp.enc_len]; simp only [Nat.min_def]; split <;> omega
  have f2 : ∀ j u, s.enc[j]? = some u → w2.cell? ((⟨vb, 0, none⟩ : Addr).add j) = some u := fun j u hu => by rw [Addr.add_lit, cell_of_row w2 vb (0 + j) _ 30 (0, 0) HV2.out]; simpa using hu
  have f3 : off + i * 2 + s.enc.length ≤ (over L (off + (i + 1) * 2) ((xs.flatMap Smp.enc).drop (i * 2))).length := by rw [over_len (by rw [LD.out, LS.out]; omega), LS.out, Smp.enc_len]; omega
  have f4 : ∀ u ∈ s.enc, u.oneCell' = true := by simp [Smp.enc, Value.oneCell']
  have F1 := Lib.hid f1
  have F2 := Lib.hid f2
  have F3 := Lib.hid f3
  have F4 := Lib.hid f4
  clear f1 f2 f3 f4
  go_wp2_with (refine wpList_copy_sz (P := Try.prog) rfl (.tmp 80) (.tmp 81) 23 23 rfl 30 2 Try.underlying23 s1 g (off + i * 2) ⟨vb, 0, none⟩ (n + 1 - i) (c - i) 1 1 rfl rfl _ 30 hg2.out s.enc F1.out F2.out F3.out F4.out ?_; intro w3 hg3 gr3)
  go_ret
  refine ⟨_, rfl, ⟨?_, .inr ⟨g, off, c, _, rfl, hbg, hg3.out, hroom, by unfold maxLen; omega, ?_, ?_⟩⟩, grown_trans GR.out gr3⟩
  · rw [flat_len Smp.enc 2 Smp.enc_len, List.length_append, List.length_cons, List.length_take, List.length_drop, HL.out]; omega
  · rw [List.size_toArray, over_len (by rw [over_len (by rw [LD.out, LS.out]; omega), LS.out, Smp.enc_len]; omega), over_len (by rw [LD.out, LS.out]; omega), LS.out]; omega
  · rw [flat_mid]
    have e := ins_cells (off := off) (a := i * 2) (cur := L) (X := xs.flatMap Smp.enc) (E := s.enc) (n := n * 2) HT.out HX.out (by omega) rfl (by rw [LS.out]; omega)
    rw [show i * 2 + 2 = (i + 1) * 2 by omega, show n * 2 + 2 = (n + 1) * 2 by omega] at e
    exact e
end Go.Proofs.Ytjimaanleamgjaa
