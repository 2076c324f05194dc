import Derived.Test.YtjimaanleamgjaaT1
namespace Go.Proofs.Ytjimaanleamgjaa
open Go.RowKit

theorem sameS_self (a b : Int) : sameS ⟨a, b⟩ ⟨a, b⟩ = true := by simp [sameS]
theorem neq_self (a0 a1 : Int) (w : World) : (binOp .neq 30 (.agg #[.int .i64 a0, .int .i64 a1]) (.agg #[.int .i64 a0, .int .i64 a1])).run Try.prog w = .ok (.bool false) w := by
  rw [neq_smp, sameS_self]; rfl
attribute [local go_sem ↓] neq_self

set_option maxHeartbeats 1000000 in
/-- slices.Equal at one list. -/
theorem equal_yes (A1 A2 : Option Addr) (n c1 c2 : Nat) (xs : List Smp) (w : World) (h1 : RdS w w.heap.size A1 n xs) (h2 : RdS w w.heap.size A2 n xs) (m1 : n ≤ 64) :
    Calls Try.prog 20 #[.slice A1 n c1, .slice A2 n c2] w fun e w' => e = .returned (.bool true) ∧ ∃ q, w' = w.drewN q := by
  have H1 := Lib.hid h1
  have H2 := Lib.hid h2
  clear h1 h2
  go_enter Try.func20, Try.ntmps20
  go_wp2
  go_loopg [13] n (fun g v wr => ∃ k : Nat, k ≤ n ∧ n - k ≤ g ∧ v = .int .i64 k ∧ Hid (∃ q, wr = w.drewN q))
  case atStart => exact ⟨0, by omega, by omega, rfl, ⟨0, rfl⟩⟩
  case round =>
    obtain ⟨k, hk1, hg, rfl, HW⟩ := hrel
    by_cases hl1 : k < n
    · obtain ⟨b1, o1, x, rfl, hb1, hx, r1⟩ := H1.out.at_ k hl1
      obtain ⟨b2, o2, y, rfl, hb2, hy, r2⟩ := H2.out.at_ k hl1
      obtain rfl : x = y := by rw [hx] at hy; exact Option.some.inj hy
      have hw : ∀ p : Addr, wr.cell? p = w.cell? p := by obtain ⟨q, rfl⟩ := HW.out; intro p; simp
      obtain ⟨p0, p1⟩ := r1.keep (w' := wr) fun p _ => hw p
      obtain ⟨q0, q1⟩ := r2.keep (w' := wr) fun p _ => hw p
      clear r1 r2 hx hy hw
      go_wp2_with fail
      go_quiet (fail)
      go_wp2
      go_roundg (n - (k + 1))
      case measure => omega
      case rel => exact ⟨k + 1, by omega, by omega, by go_num, by obtain ⟨q, rfl⟩ := HW.out; exact ⟨q + nq, by simp⟩⟩
    · go_wp2
      go_ret
      exact ⟨rfl, HW.out⟩

/-- slices.Equal at lists of two lengths. -/
theorem equal_no (A1 A2 : Option Addr) (n1 n2 c1 c2 : Nat) (w : World) (hn : n1 ≠ n2) :
    Calls Try.prog 20 #[.slice A1 n1 c1, .slice A2 n2 c2] w fun e w' => e = .returned (.bool false) ∧ ∃ q, w' = w.drewN q := by
  have e0 : ((n1 : Int) == (n2 : Int)) = false := by simp; omega
  have e1 : ((n1 : Int) != (n2 : Int)) = true := by simp; omega
  go_enter Try.func20, Try.ntmps20
  go_wp2
  go_ret
  exact ⟨rfl, 0, rfl⟩

set_option maxHeartbeats 1000000 in
/-- SameSamples at one list. -/
theorem sameSmp_any (A1 A2 : Option Addr) (n c1 c2 : Nat) (xs : List Smp) (w : World) (h1 : RdS w w.heap.size A1 n xs) (h2 : RdS w w.heap.size A2 n xs) (m1 : n ≤ 64) :
    Calls Try.prog 23 #[.slice A1 n c1, .slice A2 n c2] w fun e w' => e = .returned (.bool true) ∧ ∃ q, w' = w.drewN q := by
  have H1 := Lib.hid h1
  have H2 := Lib.hid h2
  clear h1 h2
  go_enter Try.func23, Try.ntmps23
  go_wp2
  go_loopg [5] n (fun g v wr => ∃ k : Nat, k ≤ n ∧ n - k ≤ g ∧ v = .int .i64 k ∧ Hid (∃ q, wr = w.drewN q))
  case atStart => exact ⟨0, by omega, by omega, rfl, ⟨0, rfl⟩⟩
  case round =>
    obtain ⟨k, hk1, hg, rfl, HW⟩ := hrel
    by_cases hl1 : k < n
    · obtain ⟨b1, o1, x, rfl, hb1, hx, r1⟩ := H1.out.at_ k hl1
      obtain ⟨b2, o2, y, rfl, hb2, hy, r2⟩ := H2.out.at_ k hl1
      obtain rfl : x = y := by rw [hx] at hy; exact Option.some.inj hy
      have hw : ∀ p : Addr, wr.cell? p = w.cell? p := by obtain ⟨q, rfl⟩ := HW.out; intro p; simp
      obtain ⟨p0, p1⟩ := r1.keep (w' := wr) fun p _ => hw p
      obtain ⟨q0, q1⟩ := r2.keep (w' := wr) fun p _ => hw p
      clear r1 r2 hx hy hw
      go_wp2_with fail
      go_quiet (fail)
      go_wp2
      go_roundg (n - (k + 1))
      case measure => omega
      case rel => exact ⟨k + 1, by omega, by omega, by go_num, by obtain ⟨q, rfl⟩ := HW.out; exact ⟨q + nq, by simp⟩⟩
    · go_wp2
      go_ret
      exact ⟨rfl, HW.out⟩

/-- slices.Clone: a slice of the same elements in new memory (nil for nil). -/
def Fresh (w : World) (n : Nat) (xs : List Smp) (e : Ending) (w' : World) : Prop :=
  ∃ v, e = .returned v ∧ Own w' w.heap.size 30 2 v n (xs.flatMap Smp.enc) ∧ Below w.heap.size w w'
theorem clone_any (A : Option Addr) (n c : Nat) (xs : List Smp) (w : World) (h : RdS w w.heap.size A n xs) (hA : A = none → n = 0 ∧ c = 0) (hn : n ≤ 64) :
    Calls Try.prog 19 #[.slice A n c] w (Fresh w n xs) := by
  cases A with
  | none =>
    obtain ⟨rfl, rfl⟩ := hA rfl
    obtain rfl : xs = [] := List.eq_nil_of_length_eq_zero h.1
    have e0 := fun w => Lib.run_eql_slice_nil (P := Try.prog) w 23 30 none 0 0 0 0 Try.underlying23
    go_enter Try.func19, Try.ntmps19
    go_wp2
    go_ret
    exact ⟨_, rfl, Own.nil_ _ _ _ _, Below.refl _ _⟩
  | some a =>
    obtain ⟨i0, hi, hz0, hz1, hz2⟩ := info_parts smp_info
    have e0 := fun w => Lib.run_eql_slice_nil (P := Try.prog) w 23 30 (some a) n c 0 0 Try.underlying23
    go_enter Try.func19, Try.ntmps19
    go_wp2_with (at_builtin; refine wpList_append_rd _ rfl (.tmp 5) (.tmp 6) 23 rfl w.heap.size 30 i0 _ 2 16 Try.underlying23 hi hz0 hz1 hz2 rfl (by decide) (.slice (some ⟨w.heap.size, 0, none⟩) 0 0) 0 [] rfl (Own.built w 30 2) w.heap.size (some a) n c (xs.flatMap Smp.enc) rfl (h.2.below ((Below.refl _ _).alloc (Nat.le_refl _) _)) (fun h => by cases h) (enc_one xs) (by simp only [maxLen]; omega) (by omega) (by simp) ?_; intro v1 w1 hown1 hg1 hat1)
    go_ret
    have hb : Below w.heap.size w w1 := ((Below.refl _ _).alloc (Nat.le_refl _) _).grown hg1 (by simp) (fun k hk => by simp [Value.ownBlock] at hk; omega)
    exact ⟨v1, rfl, by simpa using hown1, hb⟩
end Go.Proofs.Ytjimaanleamgjaa
