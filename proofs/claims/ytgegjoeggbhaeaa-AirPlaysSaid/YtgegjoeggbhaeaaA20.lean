import Derived.Test.YtgegjoeggbhaeaaA19
namespace Go.Proofs.Ytgegjoeggbhaeaa
open Go.RowKit Go.Conc

theorem there_no (B p : Nat) (v : Value) (s : List Row) (n : Int) (w : World) (a : Ref w B p v s) (hno : ¬ ∃ k : Nat, k ∈ flyOf s ∧ (k : Int) = n) :
    Calls Try.prog 20 #[.pointer (some ⟨p, 0, none⟩), .int .i64 n] w fun e w' => e = .returned (.bool false) ∧ w' = w := by
  by_cases h : n < 0 ∨ (s.length : Int) ≤ n
  · exact there_out B p v s n w a h
  · obtain ⟨k, rfl⟩ : ∃ k : Nat, n = (k : Int) := ⟨n.toNat, by omega⟩
    have hk : k < s.length := by omega
    have hg : (s[k]).gone = true := by
      cases hg : (s[k]).gone with
      | true => rfl
      | false => exact absurd ⟨k, (mem_flyOf s k).2 ⟨s[k], by simp [hk], hg⟩, rfl⟩ hno
    have := there_in B p v s k s[k] w a (by simp [hk])
    rwa [hg] at this

set_option maxHeartbeats 1000000 in
theorem rdouble_no (B p : Nat) (v : Value) (s : List Row) (n : Int) (w : World) (a : Ref w B p v s) (hno : ¬ ∃ k : Nat, k ∈ flyOf s ∧ (k : Int) = n) :
    Calls Try.prog 14 #[.pointer (some ⟨p, 0, none⟩), .int .i64 n] w fun e w' => e = .returned (.tuple #[.int .i64 (-1), .bool false]) ∧ w' = w := by
  have H := there_no B p v s n w a hno
  clear hno
  go_enter Try.func14, Try.ntmps14
  go_wp2_with fail
  refine H.mono ?_
  rintro e w' ⟨rfl, rfl⟩
  clear H
  go_wp2
  go_ret2
  exact ⟨rfl, rfl⟩

set_option maxHeartbeats 4000000 in
set_option maxRecDepth 100000 in
theorem rdouble_ok (B p : Nat) (v : Value) (s : List Row) (k : Nat) (r : Row) (w : World) (a : Ref w B p v s) (hB : B ≤ w.heap.size) (hk : s[k]? = some r) (hg : r.gone = false) (few : s.length < 200) :
    Calls Try.prog 14 #[.pointer (some ⟨p, 0, none⟩), .int .i64 (k : Int)] w fun e w' => ∃ v', e = .returned (.tuple #[.int .i64 s.length, .bool true]) ∧ Ref w' B p v' (s ++ [⟨r.to, r.body, false⟩]) ∧ Turn w w' p p v v' := by
  have H := there_in B p v s k r w a hk
  rw [hg] at H
  obtain ⟨i0, hi, hz0, hz1, hz2⟩ := info_parts fly_info
  have I0 := Lib.hid (And.intro hi (And.intro hz0 (And.intro hz1 hz2)))
  have hfl := fly_len s
  clear hi hz0 hz1 hz2
  go_enter Try.func14, Try.ntmps14
  go_wp2_with fail
  refine H.mono ?_
  rintro e w' ⟨rfl, rfl⟩
  clear H
  go_wp2_with fail
  refine (rflying B p v s w' a (by omega)).mono ?_
  rintro e w1 ⟨fv, rfl, ho, b1⟩
  obtain ⟨Af, cf, rfl, _, _, _⟩ := ho.form
  have a1 := a.below b1
  have T1 : Hid (Turn w' w1 p p v v) := Lib.hid (Turn.of_below b1)
  have s1 := b1.size
  clear ho b1 a
  obtain ⟨b, off, c, bv, rfl, c0, c1, c2, c3, hbd, hf, hbl, hks⟩ := a1.row hk
  obtain ⟨ps, hps, tb⟩ := a1.tab
  have hl : ps.length = s.length := by rw [← hps, List.length_map]
  have OW : Hid (Own w1 B 55 3 (.slice (some ⟨b, off, none⟩) s.length c) s.length (ps.flatMap encP)) := Lib.hid (by rw [← hl]; have := tb.own; rwa [← hl] at this)
  have TB := Lib.hid (And.intro hps tb)
  have BD : Hid (Bod w1 (⟨r.to, r.body, false⟩, bv)) := Lib.hid hbd
  have A1 := Lib.hid a1
  have hpl := a1.lt
  obtain ⟨bb, cc, cur, fr, ebv, _, _⟩ := hbd
  dsimp only at ebv
  subst ebv
  clear hps tb hl a1 hk hf c3
  go_wp2_with fail
  go_region_law
     (refine step_append_rd _ rfl (.tmp 20) (.tmp 38) 26 rfl B 55 i0 _ 3 40 Try.underlying26 I0.out.1 I0.out.2.1 I0.out.2.2.1 I0.out.2.2.2 rfl (by decide) (.slice (some ⟨b, off, none⟩) s.length c) s.length (ps.flatMap encP) rfl (OW.out.alloc _) _ _ 1 1 [.int .i64 r.to, .slice (some ⟨bb, 0, none⟩) r.body.length cc, .bool false] rfl (Rd.newE rfl rfl rfl rfl) (fun h => by cases h) (by simp; exact ⟨rfl, rfl, rfl⟩) (by simp only [maxLen]; omega) (by omega) (by simp; omega) ?_
      intro v3 w3 hown3 hg3 hat3
      obtain ⟨A3, c3v, rfl, r1, r2, r3⟩ := hown3.form
      have PL := fun w4 h4 => rpush_law (w4 := w4) (w2 := w1.drew) A1.out.drew (Below.refl _ _) (BD.out.keep (fun _ _ _ _ => rfl)) TB.out.1 (TB.out.2.keep (fun _ _ => rfl) (fun _ _ _ _ => rfl)) hown3 hg3 (hat3.imp id fun e => by simpa using e) h4 (by omega)
      have P3 := Lib.hid PL
      have top3 : w3.heap[p]? = some (.cells #[.slice (some ⟨b, off, none⟩) s.length c] 28 (0, 0)) := (hg3.block p (by have := A1.out.lt; simp; omega) (fun e => A1.out.vp e.symm)).trans ((heap_old _ _ _ (by have := A1.out.lt; simp; omega)).trans A1.out.top)
      have d0 : w3.cell? ⟨p, 0, none⟩ = some (.slice (some ⟨b, off, none⟩) s.length c) := cell_of_row w3 p 0 _ 28 (0, 0) top3
      have f0 : w3.frozen? ⟨p, 0, none⟩ = false := frozen_of_row w3 p 0 _ 28 top3
      have G3 : Hid (p < w3.heap.size) := Lib.hid (Array.getElem?_eq_some_iff.1 top3).1
      clear PL hown3 hg3 hat3 top3)
  all_goals
    go_wp2
    go_ret2
    exact ⟨_, rfl, (P3.out _ rfl).1, T1.out.trans (P3.out _ rfl).2.undrew⟩
end Go.Proofs.Ytgegjoeggbhaeaa
