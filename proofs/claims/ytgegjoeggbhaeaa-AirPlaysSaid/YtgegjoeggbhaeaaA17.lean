import Derived.Test.YtgegjoeggbhaeaaA16
namespace Go.Proofs.Ytgegjoeggbhaeaa
open Go.RowKit Go.Conc

theorem flyOf_gone (s : List Row) (r : Row) (hr : r.gone = true) : flyOf (s ++ [r]) = flyOf s := by
  unfold flyOf
  rw [List.length_append, List.length_singleton, List.range_succ, List.filter_append]
  have e : List.filter (fun i => !(((s ++ [r])[i]?.map (·.gone)).getD true)) [s.length] = [] := by simp [hr]
  rw [e, List.append_nil]
  refine List.filter_congr fun i hi => ?_
  rw [List.mem_range] at hi
  rw [List.getElem?_append_left hi]
theorem flyOf_take {s : List Row} {i : Nat} {r : Row} (h : s[i]? = some r) : flyOf (s.take (i + 1)) = if r.gone then flyOf (s.take i) else flyOf (s.take i) ++ [i] := by
  have hi : i < s.length := (List.getElem?_eq_some_iff.1 h).1
  have e : s.take (i + 1) = s.take i ++ [r] := by rw [List.take_add_one, h]; rfl
  rw [e]
  cases hr : r.gone with
  | true => rw [flyOf_gone _ _ hr]; rfl
  | false =>
    rw [flyOf_push _ _ hr, List.length_take, Nat.min_eq_left (by omega)]; rfl

set_option maxHeartbeats 2000000 in
set_option maxRecDepth 100000 in
/-- The reference's Flying. -/
theorem rflying (B p : Nat) (v : Value) (s : List Row) (w : World) (a : Ref w B p v s) (hs : s.length ≤ 200) :
    Calls Try.prog 19 #[.pointer (some ⟨p, 0, none⟩)] w fun e w' => ∃ fv, e = .returned fv ∧ Own w' w.heap.size 3 1 fv (flyOf s).length (nums (flyOf s)) ∧ Below w.heap.size w w' := by
  obtain ⟨A, c, rfl, q1, q2, q3⟩ := a.form
  obtain ⟨i0, hi, hz0, hz1, hz2⟩ := info_parts int_info
  have I0 := Lib.hid (And.intro hi (And.intro hz0 (And.intro hz1 hz2)))
  have AIR := Lib.hid a
  clear hi hz0 hz1 hz2 a
  go_enter Try.func19, Try.ntmps19
  go_wp2_with fail
  have L0 : Hid (Own w w.heap.size 3 1 (.slice none 0 0) (flyOf (s.take 0)).length (nums (flyOf (s.take 0))) ∧ Below w.heap.size w w) := Lib.hid ⟨Own.nil_ _ _ _ _, Below.refl _ _⟩
  go_loopg [3, 4] s.length (fun m x3 x4 wr => ∃ (i : Nat) (A' : Option Addr) (n' c' : Nat), i ≤ s.length ∧ s.length - i ≤ m ∧ n' ≤ i ∧ x3 = .slice A' n' c' ∧ x4 = .int .i64 i ∧ Hid (n' = (flyOf (s.take i)).length ∧ Own wr w.heap.size 3 1 (.slice A' n' c') n' (nums (flyOf (s.take i))) ∧ Below w.heap.size w wr))
  case atStart => exact ⟨0, none, 0, 0, by omega, by omega, by omega, rfl, rfl, ⟨rfl, L0.out⟩⟩
  case round =>
    clear L0
    obtain ⟨i, A', n', c', hil, hm, hn', rfl, rfl, HF⟩ := hrel
    obtain ⟨hn, ho, hb⟩ := HF.out
    have R := Lib.hid (AIR.out.below hb)
    have O := Lib.hid ho
    have BB := Lib.hid hb
    have HN := Lib.hid hn
    have c0 := R.out.c0
    clear HF ho hb hn
    have wi : IntKind.i64.wrap ((i : Int) + 1) = (i : Int) + 1 := i64_id (by omega) (by omega)
    by_cases hlt : i < s.length
    · have hlt' : (i : Int) < (s.length : Int) := by omega
      have hr : s[i]? = some s[i] := by simp [hlt]
      obtain ⟨b, off, c1, bv, e, _, _, _, d2, _⟩ := R.out.row hr
      injection e with e1 _ e2
      subst e1 e2
      have T := Lib.hid (flyOf_take hr)
      clear hr
      generalize hg : (s[i]).gone = gone at d2 T
      clear hg
      cases gone with
      | true =>
        go_wp2
        go_roundg (s.length - (i + 1))
        case measure => omega
        case rel => exact ⟨i + 1, A', n', c', by omega, by omega, by omega, rfl, by go_num, by rw [T.out]; exact ⟨HN.out, O.out, BB.out⟩⟩
      | false =>
        go_wp2_with (at_builtin; refine wpList_append_rd _ rfl (.tmp 23) (.tmp 25) 46 rfl w.heap.size 3 i0 _ 1 8 Try.underlying46 I0.out.1 I0.out.2.1 I0.out.2.2.1 I0.out.2.2.2 rfl (by decide) (.slice A' n' c') n' _ rfl (O.out.alloc _) _ _ 1 1 [.int .i64 (i : Int)] rfl (Rd.newE rfl rfl rfl rfl) (fun h => by cases h) (by simp; rfl) (by simp only [maxLen]; omega) (by omega) (by have := BB.out.size; simp; omega) ?_; intro v5 w5 hown5 hg5 hat5; obtain ⟨A5, c5, rfl, r1, r2, r3⟩ := hown5.form; have B5 := Lib.hid ((BB.out.alloc BB.out.size _).grown hg5 (by have := BB.out.size; simp; omega) (fun k hk => (O.out.block k hk).1)); have O5 := Lib.hid hown5; clear hown5 hg5 hat5 r1 r2 r3)
        go_roundg (s.length - (i + 1))
        case measure => omega
        case rel =>
          refine ⟨i + 1, A5, n' + 1, c5, by omega, by omega, by omega, rfl, by go_num, ?_⟩
          rw [T.out]
          refine ⟨by have := HN.out; simp; exact this, ?_, B5.out⟩
          have := O5.out
          simpa [nums] using this
    · obtain rfl : i = s.length := by omega
      have hs' : s.take s.length = s := List.take_length
      rw [hs'] at HN O
      clear hs'
      go_wp2
      go_ret
      exact ⟨_, rfl, by rw [← HN.out]; exact O.out, BB.out⟩
end Go.Proofs.Ytgegjoeggbhaeaa
