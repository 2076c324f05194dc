import Derived.Test.YtjimaanleamgjaaT4
namespace Go.Proofs.Ytjimaanleamgjaa
open Go.RowKit

theorem zero_cells (n : Nat) : (Builtin.zeroCells (Value.agg #[.int .i64 0, .int .i64 0]).cells n).size = n * 2 := by
  simp [Builtin.zeroCells, Value.cells]

set_option maxHeartbeats 4000000 in
set_option maxRecDepth 100000 in
/-- slices.Insert(s, i, x), i < len(s), where s has no room. -/
theorem insert_grow (base g off n i : Nat) (xs : List Smp) (s : Smp) (vb : Nat) (w : World) (hl : xs.length = n) (hi : i < n)
    (hown : Own w base 30 2 (.slice (some ⟨g, off, none⟩) n n) n (xs.flatMap Smp.enc)) (hb : base ≤ w.heap.size)
    (hn : n ≤ 64) (hvb : w.heap[vb]? = some (.cells s.enc.toArray 30 (0, 0))) :
    Calls Try.prog 18 #[.slice (some ⟨g, off, none⟩) n n, .int .i64 i, .slice (some ⟨vb, 0, none⟩) 1 1] w (Placed w base (.slice (some ⟨g, off, none⟩) n n) (n + 1) (xs.take i ++ s :: xs.drop i)) := by
  obtain ⟨i0, hi0, hz0, hz1, hzb⟩ := info_parts smp_info
  have hX : (xs.flatMap Smp.enc).length = n * 2 := by rw [flat_len Smp.enc 2 Smp.enc_len, hl]
  have hrd := hown.rd
  have hcell : ∀ j u, (xs.flatMap Smp.enc)[j]? = some u → w.cell? ⟨g, off + j, none⟩ = some u := by
    obtain ⟨b, o, e, _, h⟩ := hrd.2 (by omega)
    injection e with e
    injection e with e1 e2
    subst e1 e2
    exact h
  have hgl : g < w.heap.size := by
    obtain ⟨b, o, e, h, _⟩ := hrd.2 (by omega)
    injection e with e
    injection e with e1 e2
    subst e1
    exact h
  have hvl : vb < w.heap.size := (Array.getElem?_eq_some_iff.1 hvb).1
  have hold : (Builtin.firstCells i0.size i (.slice (some ⟨g, off, none⟩) i n)).run Try.prog w.drew = .ok ((xs.flatMap Smp.enc).take (i * 2)).toArray w.drew := by
    rw [hz1]
    exact run_firstCells_some w.drew 2 i ⟨g, off, none⟩ i n _ (by rw [List.length_take, hX]; omega) (fun j v hj => by
      rw [Addr.add_lit]
      rw [List.getElem?_take] at hj
      split at hj
      · exact hcell j v hj
      · cases hj)
  have hkk : (n : Int) + 1 - (i : Int) = ((n + 1 - i : Nat) : Int) := by omega
  have hik : i + (n + 1 - i) = n + 1 := by omega
  obtain ⟨G, w1, R, hG, hG63, hR, hw1, hb1, hrz⟩ : ∃ (G : Nat) (w1 : World) (R : List Value), n + 1 ≤ G ∧ G ≤ 9223372036854775807 ∧ R.length = G * 2 ∧ w1.heap[w.heap.size]? = some (.cells R.toArray 30 (0, 0)) ∧ (Below w.heap.size w w1 ∧ w1.heap.size = w.heap.size + 1 ∧ ∃ Z Y, Z.length = n * 2 + 2 - i * 2 ∧ R = (xs.flatMap Smp.enc).take (i * 2) ++ (Z ++ Y)) ∧
      ∀ ty, (Builtin.append_ #[23, 3] ty #[.slice (some ⟨g, off, none⟩) i n, .int .i64 ((n : Int) + 1 - (i : Int))]).run Try.prog w = .ok (.slice (some ⟨w.heap.size, 0, none⟩) (n + 1) G) w1 := by
    have hG := grownCap_ge w (n + 1) n 30
    have hG63 := grownCap_le_maxLen w (n + 1) n 30 (by unfold maxLen; omega)
    unfold maxLen at hG63
    refine ⟨grownCap w (n + 1) n 30, _, ((xs.flatMap Smp.enc).take (i * 2)) ++ ((Builtin.zeroCells (Value.agg #[.int .i64 0, .int .i64 0]).cells (n + 1 - i)).toList ++ (Builtin.zeroCells (Value.agg #[.int .i64 0, .int .i64 0]).cells (grownCap w (n + 1) n 30 - (n + 1))).toList), hG, by omega, ?_, ?_, ?_, fun ty => by
      have h := Lib.run_append_grow_zeros (P := Try.prog) w 23 3 ty 30 i0 _ .i64 .i64 Try.underlying23 Try.underlying3 hi0 hz0 (some ⟨g, off, none⟩) i n _ hold (n + 1 - i) (by omega) (by rw [hz1]; omega) (by omega) (by omega) (by rw [hzb]; omega) (by rw [hzb, hik]; exact growslice_fits (by omega) (by omega))
      rw [hik] at h
      rw [hkk]
      exact h⟩
    · rw [List.length_append, List.length_append, List.length_take, hX, Array.length_toList, Array.length_toList, zero_cells, zero_cells]; omega
    · rw [heap_at _ _ _ (by simp)]
      simp
    · refine ⟨(Below.refl _ _).drew.alloc (by simp) _, by simp, _, _, ?_, rfl⟩
      rw [Array.length_toList, zero_cells]; omega
  obtain ⟨hb1, hs1, Z, Y, hZ, hRe⟩ := hb1
  have s1 : (Try.prog.info? 30).map (·.size) = some 2 := by kernel_rfl
  have hv1 : w1.heap[vb]? = some (.cells s.enc.toArray 30 (0, 0)) := (hb1.block vb hvl).trans hvb
  have hc1 : ∀ j u, (xs.flatMap Smp.enc)[j]? = some u → w1.cell? ⟨g, off + j, none⟩ = some u := fun j u hu => (hb1.cell hgl).trans (hcell j u hu)
  have f1 : s.enc.length = Nat.min 1 (n + 1 - i) * 2 := by rw [Smp.enc_len]; simp only [Nat.min_def]; split <;> omega
  have f2 : ∀ j u, s.enc[j]? = some u → w1.cell? ((⟨vb, 0, none⟩ : Addr).add j) = some u := fun j u hu => by rw [Addr.add_lit, cell_of_row w1 vb (0 + j) _ 30 (0, 0) hv1]; simpa using hu
  have f3 : i * 2 + s.enc.length ≤ R.length := by rw [hR, Smp.enc_len]; omega
  have f4 : ∀ u ∈ s.enc, u.oneCell' = true := by simp [Smp.enc, Value.oneCell']
  have lD : ((xs.flatMap Smp.enc).drop (i * 2)).length = (n - i) * 2 := by rw [List.length_drop, hX]; omega
  have g1 : ((xs.flatMap Smp.enc).drop (i * 2)).length = Nat.min (n - i) (n + 1 - (i + 1)) * 2 := by rw [lD]; simp only [Nat.min_def]; split <;> omega
  have g3 : (i + 1) * 2 + ((xs.flatMap Smp.enc).drop (i * 2)).length ≤ (over R (i * 2) s.enc).length := by rw [over_len f3, lD, hR]; omega
  have hz2 : ¬ ((i : Int) = (n : Int)) := by omega
  have hw1' : IntKind.i64.wrap ((i : Int) + 1) = (i : Int) + 1 := by rw [IntKind.wrap_i64]; omega
  have hb1' : (0 : Int) ≤ (i : Int) + 1 := by omega
  have htn : ((i : Int) + 1).toNat = i + 1 := by omega
  have hb2 : ¬ (G = i + 1) := by omega
  have hb4 : ¬ (G = i) := by omega
  have hb5 : ¬ (n = i) := by omega
  have hin : i ≤ n := by omega
  have hin' : (i : Int) ≤ (n : Int) + 1 := by omega
  have F1 := Lib.hid f1
  have F2 := Lib.hid f2
  have F3 := Lib.hid f3
  have F4 := Lib.hid f4
  have G1 := Lib.hid g1
  have G3 := Lib.hid g3
  have HC1 := Lib.hid hc1
  have HW1 := Lib.hid hw1
  have HR := Lib.hid hR
  have HRE := Lib.hid hRe
  have HZ := Lib.hid hZ
  have HX := Lib.hid hX
  have HL := Lib.hid hl
  have HB1 := Lib.hid hb1
  have HS1 := Lib.hid hs1
  clear f1 f2 f3 f4 g1 g3 hc1 hw1 hR hRe hZ hX hl hb1 hs1 hv1 hcell hold hrd hkk hik lD hz0 hz1 hzb hi0 i0 hown hvb
  go_enter Try.func18, Try.ntmps18
  go_wp2_with (first
    | (at_builtin; refine Lib.wpList_append_run _ rfl _ _ _ _ rfl _ _ rfl rfl _ _ (hrz _) ?_)
    | (refine wpList_copy_sz (P := Try.prog) rfl (.tmp 43) (.tmp 44) 23 23 rfl 30 2 Try.underlying23 s1 w.heap.size (i * 2) ⟨vb, 0, none⟩ (n + 1 - i) (G - i) 1 1 rfl rfl R 30 HW1.out s.enc F1.out F2.out F3.out F4.out ?_; intro w2 hg2 gr2))
  have hc2 : ∀ j u, ((xs.flatMap Smp.enc).drop (i * 2))[j]? = some u → w2.cell? ((⟨g, off + i * 2, none⟩ : Addr).add j) = some u := fun j u hu => by
    rw [Addr.add_lit]
    rw [List.getElem?_drop] at hu
    have := HC1.out _ u hu
    rw [Nat.add_assoc, ← this]
    exact World.cell?_of_block (gr2.block g (by rw [HS1.out]; omega) (fun e => by injection e with e; omega))
  have HC2 := Lib.hid hc2
  have GR2 := Lib.hid gr2
  clear hc2 gr2
  go_region_law (refine step_copy_sz rfl (.tmp 50) (.tmp 53) 23 23 rfl 30 2 Try.underlying23 s1 w.heap.size ((i + 1) * 2) ⟨g, off + i * 2, none⟩ (n + 1 - (i + 1)) (G - (i + 1)) (n - i) (n - i) (by simp [Act.eval, Act.put]) (by simp [Act.eval, Act.put]) (over R (i * 2) s.enc) 30 hg2.out ((xs.flatMap Smp.enc).drop (i * 2)) G1.out HC2.out G3.out (fun u hu => enc_one xs u (List.mem_of_mem_drop hu)) ?_; intro w3 hg3 gr3)
  go_wp2
  go_ret
  refine ⟨_, rfl, ⟨?_, .inr ⟨w.heap.size, 0, G, _, rfl, hb, hg3.out, hG, by unfold maxLen; omega, ?_, ?_⟩⟩, ?_⟩
  · rw [flat_len Smp.enc 2 Smp.enc_len, List.length_append, List.length_cons, List.length_take, List.length_drop, HL.out]; omega
  · rw [List.size_toArray, over_len G3.out, over_len F3.out, HR.out]; omega
  · rw [flat_mid]
    have e := grow_cells (a := i * 2) (X := xs.flatMap Smp.enc) (E := s.enc) (Z := Z) (Y := Y) (n := n * 2) HX.out (by omega) rfl HZ.out
    rw [show i * 2 + 2 = (i + 1) * 2 by omega, show n * 2 + 2 = (n + 1) * 2 by omega, ← HRE.out] at e
    exact e
  · have gA : w.grownBy w2 (some g) := grown_new (grown_of_below HB1.out (some g)) GR2.out (fun k hk => by injection hk with hk; omega)
    have gB : w2.grownBy w3 (some w.heap.size) := ⟨gr3.os, gr3.tape, gr3.output, gr3.size, gr3.block⟩
    exact grown_new gA gB (fun k hk => by injection hk with hk; omega)
end Go.Proofs.Ytjimaanleamgjaa
