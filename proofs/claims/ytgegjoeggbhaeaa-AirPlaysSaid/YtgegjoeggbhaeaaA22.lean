import Derived.Test.YtgegjoeggbhaeaaA21
namespace Go.Proofs.Ytgegjoeggbhaeaa
open Go.RowKit Go.Conc

theorem Own.num_at {w : World} {b m c k : Nat} {A : Option Addr} {xs : List Nat} {x : Nat} (ho : Own w b 3 1 (.slice A m c) m (nums xs)) (hk : xs[k]? = some x) : ∃ bb off, A = some ⟨bb, off, none⟩ ∧ w.cell? ⟨bb, off + k, none⟩ = some (.int .i64 (x : Int)) := by
  have hm : m = xs.length := by have := ho.1; simp at this; omega
  have hl : k < xs.length := (List.getElem?_eq_some_iff.1 hk).1
  obtain ⟨bb, off, e, _, hc⟩ := ho.rd.2 (by omega)
  exact ⟨bb, off, e, hc k _ (by simp [nums, hk])⟩

set_option maxHeartbeats 4000000 in
set_option maxRecDepth 100000 in
theorem same_any (B g h p : Nat) (v u : Value) (s : List Row) (w : World) (t : Two B w g h v s p u s) (hB : B ≤ w.heap.size) (hs : s.length ≤ 200) :
    Calls Try.prog 15 #[.pointer (some ⟨g, 0, none⟩), .pointer (some ⟨p, 0, none⟩)] w fun e w' => e = .returned (.bool true) ∧ Two B w' g h v s p u s ∧ Below B w w' := by
  have hn : (flyOf s).length ≤ 200 := t.air.room
  have TT := Lib.hid t
  clear t
  go_enter Try.func15, Try.ntmps15
  go_wp2_with fail
  refine (all_any B g h v s w TT.out.air).mono ?_
  rintro e w1 ⟨lv, qs, rfl, hq, tq, b1⟩
  have T1 := Lib.hid (TT.out.on b1)
  have Q1 := Lib.hid (And.intro hq tq)
  have BB1 := Lib.hid b1
  clear hq tq b1
  go_wp2_with fail
  refine (flying_any B g h v s w1 T1.out.air).mono ?_
  rintro e w2 ⟨fv, rfl, o2, a2, t2⟩
  have T2 := Lib.hid (T1.out.stepA a2 t2)
  have Q2 := Lib.hid (Q1.out.2.turn T1.out.air t2 TT.out.air.lt TT.out.air.lth (fun j hj => (TT.out.air.vlt j hj).2))
  have BB2 := Lib.hid ((BB1.out.mono hB).trans (T1.out.air.below_of t2 (Nat.le_trans hB BB1.out.size)))
  have O2 := Lib.hid o2
  clear o2 a2 t2
  go_wp2_with fail
  refine (rflying B p u s w2 T2.out.ref (by omega)).mono ?_
  rintro e w3 ⟨gv, rfl, o3, b3⟩
  have T3 := Lib.hid (T2.out.on b3)
  have Q3 := Lib.hid (Q2.out.below b3)
  have BB3 := Lib.hid (BB2.out.trans (b3.mono BB2.out.size |>.mono (by exact Nat.le_trans hB (Nat.le_refl _))))
  have O2' := Lib.hid (O2.out.below b3)
  have O3 := Lib.hid o3
  clear o3 b3
  have hql : qs.length = s.length := by rw [← Q1.out.1, List.length_map]
  obtain ⟨Al, cl, rfl, l1, l2, l3⟩ := Q3.out.own.form
  obtain ⟨Af, cf, rfl, f1, f2, f3⟩ := O2'.out.form
  obtain ⟨Ag, cg, rfl, g1, g2, g3⟩ := O3.out.form
  obtain ⟨Au, cu, rfl, u1, u2, u3⟩ := T3.out.ref.form
  rw [hql] at *
  have c0 := T3.out.ref.c0
  clear hql l3 f3 g3 u3
  generalize hnn : (flyOf s).length = n at *
  have HN := Lib.hid hnn
  clear hnn
  go_wp2_with fail
  go_loopg [8] n (fun m x8 wr => ∃ i : Nat, i ≤ n ∧ n - i ≤ m ∧ x8 = .int .i64 i ∧ Hid (∃ q, wr = w3.drewN q))
  case atStart => exact ⟨0, by omega, by omega, rfl, 0, rfl⟩
  case round =>
    obtain ⟨i, hi, hm, rfl, HW⟩ := hrel
    obtain ⟨q, rfl⟩ := HW.out
    clear HW
    have wi : IntKind.i64.wrap ((i : Int) + 1) = (i : Int) + 1 := i64_id (by omega) (by omega)
    by_cases hlt : i < n
    · have hx : (flyOf s)[i]? = some ((flyOf s)[i]'(by have := HN.out; omega)) := by simp
      obtain ⟨bf, of', rfl, k1⟩ := O2'.out.num_at hx
      obtain ⟨bg, og, rfl, k2⟩ := O3.out.num_at hx
      have hlt' : (i : Int) < (n : Int) := by omega
      clear hx
      generalize ((flyOf s)[i]'(by have := HN.out; omega)) = x at k1 k2
      go_wp2_with fail
      go_quiet (fail)
      go_wp2
      go_roundg (n - (i + 1))
      case measure => omega
      case rel => exact ⟨i + 1, by omega, by omega, by go_num, q + nq, by simp⟩
    · obtain rfl : i = n := by omega
      clear hlt hm hi wi
      go_wp2_with fail
      clear O2' O3 c0
      have c0 := T3.out.ref.c0
      go_loopg [9] s.length (fun m x9 wr => ∃ j : Nat, j ≤ s.length ∧ s.length - j ≤ m ∧ x9 = .int .i64 j ∧ Hid (∃ q, wr = w3.drewN q))
      case atStart => exact ⟨0, by omega, by omega, rfl, q, rfl⟩
      case round =>
        obtain ⟨j, hj, hm, rfl, HW⟩ := hrel
        obtain ⟨q', rfl⟩ := HW.out
        clear HW
        have wj : IntKind.i64.wrap ((j : Int) + 1) = (j : Int) + 1 := i64_id (by omega) (by omega)
        by_cases hlt : j < s.length
        · have hr : s[j]? = some s[j] := by simp [hlt]
          obtain ⟨bl, ol, bv, rfl, a1, a2, a3, a4⟩ := Q3.out.row Q1.out.1 rfl hr
          obtain ⟨bu, ou, cu', bw, e, _, d1, d2, d3, hbd, _, _, _⟩ := T3.out.ref.row hr
          injection e with e1 _ e2
          subst e1 e2
          have d4 : ∀ n, (convert 30 9 bw).run Try.prog (w3.drewN n) = .ok (.string (strOfNums (s[j]).body)) (w3.drewN n) := fun n => (hbd.keep (w' := w3.drewN n) (fun _ _ _ _ => rfl)).conv
          have hlt' : (j : Int) < (s.length : Int) := by omega
          clear hr hbd
          generalize s[j] = r at a1 a2 a3 a4 d1 d2 d3 d4
          obtain ⟨to, body, gone⟩ := r
          dsimp only at a1 a2 a3 a4 d1 d2 d3 d4
          go_wp2_with fail
          go_quiet (fail)
          go_wp2
          go_roundg (s.length - (j + 1))
          case measure => omega
          case rel => exact ⟨j + 1, by omega, by omega, by go_num, q' + nq, by simp⟩
        · obtain rfl : j = s.length := by omega
          clear hlt hm hj wj
          go_wp2
          go_ret
          exact ⟨rfl, T3.out.on (below_drewN (Below.refl _ _) _), BB3.out.trans (below_drewN (Below.refl _ _) _)⟩
end Go.Proofs.Ytgegjoeggbhaeaa
