import Derived.Test.YtpanjdncjdellaaT3
namespace Go.Proofs.Ytpanjdncjdellaa
open Go.RowKit

set_option maxHeartbeats 1000000 in
theorem body_old (B g : Nat) (s : St) (q : Int) (w : World) (h : Inv w B g s) (hq : q ≤ s.acked) :
    Calls Try.prog 14 #[.pointer (some ⟨g, 0, none⟩), .int .i64 q] w fun e w' => e = .returned (.tuple #[.slice none 0 0, .bool false]) ∧ Below w.heap.size w w' := by
  obtain ⟨A, c, _, _, _, _, c0, c1, c2, c3, c4, c5, fz⟩ := h.open_
  have hd : decide (q ≤ s.acked) = true := by simpa using hq
  clear h fz
  go_enter Try.func14, Try.ntmps14
  go_wp2_with fail
  go_quiet (fail)
  go_wp2
  go_ret2
  exact ⟨rfl, below_drewN (Below.refl _ _) _⟩

set_option maxHeartbeats 1000000 in
theorem body_past (B g : Nat) (s : St) (q : Int) (w : World) (h : Inv w B g s) (hq : s.acked + s.l.length < q) (h0 : 0 ≤ s.acked) (hb : q ≤ 1000000000) :
    Calls Try.prog 14 #[.pointer (some ⟨g, 0, none⟩), .int .i64 q] w fun e w' => e = .returned (.tuple #[.slice none 0 0, .bool false]) ∧ Below w.heap.size w w' := by
  obtain ⟨A, c, _, _, _, _, c0, c1, c2, c3, c4, c5, fz⟩ := h.open_
  have hd : decide (q ≤ s.acked) = false := by simp; omega
  have hle := h.le
  obtain ⟨k, hk⟩ : ∃ k : Nat, q - s.acked = (k : Int) := ⟨(q - s.acked).toNat, by omega⟩
  have hwr : IntKind.i64.wrap (k : Int) = (k : Int) := i64_id (by omega) (by omega)
  have hgt : (s.l.length : Int) < (k : Int) := by omega
  clear h fz
  go_enter Try.func14, Try.ntmps14
  go_wp2_with fail
  go_quiet (fail)
  go_wp2
  go_ret2
  exact ⟨rfl, below_drewN (Below.refl _ _) _⟩

set_option maxHeartbeats 2000000 in
theorem body_some (B g : Nat) (s : St) (q : Int) (b : List Value) (j : Nat) (w : World) (h : Inv w B g s) (hj : q - s.acked = (j : Int) + 1) (hb : s.l[j]? = some b) (h1 : ∀ u ∈ b, u.oneCell' = true) (h2 : b.length ≤ 1000000) (h0 : 0 ≤ s.acked) :
    Calls Try.prog 14 #[.pointer (some ⟨g, 0, none⟩), .int .i64 q] w fun e w' => ∃ v, e = .returned (.tuple #[v, .bool true]) ∧ Own w' w.heap.size 5 1 v b.length b ∧ Below w.heap.size w w' := by
  obtain ⟨A, c, hold, hc1, hc2, _, c0, c1, c2, c3, c4, c5, fz⟩ := h.open_
  have hd : decide (q ≤ s.acked) = false := by simp; omega
  have hle := h.le
  obtain ⟨ls, hown, hbod⟩ := hold
  obtain ⟨v, hv, hvo⟩ := hbod j b hb
  have hjl : j < s.l.length := (List.getElem?_eq_some_iff.1 hb).1
  obtain ⟨gl, off, rfl, _, hcell⟩ := hown.rd.2 (by omega)
  have hcv := hcell j v hv
  obtain ⟨A1, cc1, rfl, _, _, hnil⟩ := hvo.form
  have hw1 : IntKind.i64.wrap ((j : Int) + 1) = (j : Int) + 1 := i64_id (by omega) (by omega)
  have hw2 : IntKind.i64.wrap (j : Int) = (j : Int) := i64_id (by omega) (by omega)
  have hgt : (j : Int) + 1 ≤ (s.l.length : Int) := by omega
  have hgt2 : (j : Int) < (s.l.length : Int) := by omega
  have hdn : decide ((s.l.length : Int) < (j : Int) + 1) = false := by simp; omega
  have HR := Lib.hid hvo.rd
  clear h fz hown hbod hvo hcell
  go_enter Try.func14, Try.ntmps14
  go_wp2_with fail
  go_quiet (fail)
  go_wp2_with fail
  have HR2 : Hid (Rd (w.drewN nq) (w.drewN nq).heap.size 1 A1 b.length b) := Lib.hid (by exact HR.out)
  have hbl : Below w.heap.size w (w.drewN nq) := below_drewN (Below.refl _ _) _
  have d0 : (w.drewN nq).cell? ⟨g, 0, none⟩ = _ := c0
  have d1 : (w.drewN nq).cell? ⟨g, 1, none⟩ = _ := c1
  have d2 : (w.drewN nq).cell? ⟨gl, off + j, none⟩ = _ := hcv
  generalize w.drewN nq = w1 at HR2 hbl d0 d1 d2 ⊢
  go_still_tail 13, (by kernel_rfl)
  change wpList _ _ _ _ _ w1.drew
  go_wp2_with (go_at_call 15; refine (clone_any A1 b.length cc1 b _ (by exact HR2.out) hnil h1 h2).mono ?_; rintro e w2 ⟨v, rfl, ho, hb2⟩)
  have hb3 : Below w.heap.size w w2 := hbl.trans (Below.mono ⟨hb2.os, hb2.tape, hb2.output, hb2.size, hb2.block⟩ hbl.size)
  go_ret2
  exact ⟨v, rfl, ho.base_ (fun g hg => Nat.le_trans hbl.size (ho.block g hg).1), hb3⟩
end Go.Proofs.Ytpanjdncjdellaa
