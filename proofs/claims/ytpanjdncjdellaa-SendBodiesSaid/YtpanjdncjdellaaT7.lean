import Derived.Test.YtpanjdncjdellaaT6
import Derived.Lib.SlBytesConst
namespace Go.Proofs.Ytpanjdncjdellaa
open Go.RowKit

theorem rd_marked (w : World) (cs : Array Value) (t : TypeId) (fr : Nat × Nat) (n : Nat) (h : cs.size = n) : Rd (w.alloc (.cells cs t fr)) (w.alloc (.cells cs t fr)).heap.size 1 (some ⟨w.heap.size, 0, none⟩) n cs.toList :=
  ⟨by simpa using h, fun _ => ⟨w.heap.size, 0, rfl, by simp, fun j u hu => by
    rw [cell_of_row _ _ (0 + j) cs t fr (heap_alloc_new w _)]; simpa using hu⟩⟩

theorem below_after' {B : Nat} {w a b c : World} (h : Below B w a) (k : Below B a b) (l : Below B b c) : Below B w c := (h.trans k).trans l
theorem u8_under : Try.prog.underlying 5 = some (.int .u8) := by kernel_rfl

abbrev bodyA : List Value := [.int .u8 97]
theorem st1 : St.fresh.put bodyA = ⟨[bodyA], 0, 0, 2, -1, 0⟩ := rfl
theorem top1 : St.top ⟨[bodyA], 0, 0, 2, -1, 0⟩ = 1 := by decide
theorem out1 : St.out ⟨[bodyA], 0, 0, 2, -1, 0⟩ 0 = ⟨[bodyA], 0, 1, 2, 2, 0⟩ := by simp [St.out, top1]
theorem top2 : St.top ⟨[bodyA], 0, 1, 2, 2, 0⟩ = 1 := by decide
theorem out2 : St.out ⟨[bodyA], 0, 1, 2, 2, 0⟩ 1 = ⟨[bodyA], 0, 1, 2, 2, 1⟩ := by simp [St.out, top2]
theorem ack1 : St.ack ⟨[bodyA], 0, 1, 4, 6, 2⟩ 1 = ⟨[], 1, 1, 2, -1, 2⟩ := by simp [St.ack]

set_option maxHeartbeats 4000000 in
set_option maxRecDepth 100000 in
theorem told_any (w : World) : Calls Try.prog 10 #[] w fun e w' => e = .returned (.bool true) ∧ Below w.heap.size w w' := by
  have hcv := fun W => Lib.run_convert_bytes_const (P := Try.prog) W 26 5 #[.int .u8 97] 1 1 Try.underlying26 u8_under
  go_enter Try.func10, Try.ntmps10
  go_wp2_with fail
  refine (new_any w).mono ?_
  rintro e w1 ⟨rfl, i1, b1⟩
  have l1 := i1.lt
  have I1 := Lib.hid i1
  have B1 := Lib.hid b1
  clear i1 b1
  go_wp2_with fail
  refine (due_any _ _ _ _ I1.out).mono ?_
  rintro e w2 ⟨rfl, rfl⟩
  simp only [St.fresh]
  go_wp2_with fail
  have IA := Lib.hid (I1.out.below ((Below.refl _ _).alloc (Nat.le_refl _) (.cells #[.int .u8 97] 5 (1, 2))))
  refine (put_ok w.heap.size w.heap.size St.fresh _ 1 1 bodyA _ IA.out (rd_marked w2 #[.int .u8 97] 5 (1, 2) 1 rfl) (fun h => by cases h) (by simp; rfl) (by omega) (by simp [St.fresh])).mono ?_
  rintro e w3 ⟨rfl, i3, b3⟩
  have B3 := Lib.hid (below_after' B1.out ((Below.refl w.heap.size w2).alloc (by omega) (.cells #[.int .u8 97] 5 (1, 2))) b3)
  have I3 := Lib.hid i3
  clear i3 b3 IA B1 I1 l1
  go_wp2_with fail
  rw [st1] at I3
  refine (out_fresh w.heap.size w.heap.size _ 0 _ I3.out (.inl rfl) (by decide) (by decide) (by decide) (by decide) (by decide) (by decide) (by decide) (by decide)).mono ?_
  rintro e w4 ⟨Aa, ma, ca, rfl, hma, oa, i4, g4⟩
  rw [top1] at hma
  obtain rfl : ma = 1 := by simp at hma; omega
  rw [out1] at i4
  have B4 := Lib.hid (B3.out.trans (below_grown g4 (Nat.le_refl _) B3.out.size))
  have I4 := Lib.hid i4
  have OA := Lib.hid oa
  clear i4 g4 oa I3 B3
  go_wp2_with fail
  refine (out_fresh w.heap.size w.heap.size _ 1 _ I4.out (.inr (by decide)) (by decide) (by decide) (by decide) (by decide) (by decide) (by decide) (by decide) (by decide)).mono ?_
  rintro e w5 ⟨Ab, mb, cb, rfl, hmb, ob, i5, g5⟩
  rw [top2] at hmb
  obtain rfl : mb = 0 := by simp at hmb; omega
  rw [out2] at i5
  have B5 := Lib.hid (B4.out.trans (below_grown g5 (Nat.le_refl _) B4.out.size))
  have I5 := Lib.hid i5
  have OA5 := Lib.hid (I4.out.own OA.out (by decide) g5)
  clear i5 g5 ob I4 B4 OA
  go_wp2_with fail
  refine (out_again w.heap.size w.heap.size _ _ I5.out).mono ?_
  rintro e w6 ⟨Ac, cc, rfl, oc, i6, g6⟩
  have B6 := Lib.hid (B5.out.trans (below_grown g6 (Nat.le_refl _) B5.out.size))
  have I6 := Lib.hid i6
  have OA6 := Lib.hid (I5.out.own OA5.out (by decide) g6)
  clear i6 g6 oc I5 B5 OA5
  go_wp2_with fail
  refine (due_any _ _ _ _ I6.out).mono ?_
  rintro e w7 ⟨rfl, rfl⟩
  simp only []
  go_wp2_with fail
  refine (body_some w.heap.size w.heap.size _ 1 bodyA 0 _ I6.out (by decide) rfl (by simp; rfl) (by simp) (by decide)).mono ?_
  rintro e w8 ⟨vx, rfl, ox, b8⟩
  obtain ⟨Ax, cx, rfl, _, _, _⟩ := ox.form
  have B8 := Lib.hid (below_after B6.out b8 B6.out.size)
  have I8 := Lib.hid (I6.out.below b8)
  have OA8 := Lib.hid (OA6.out.below b8)
  have OX := Lib.hid ox
  clear b8 ox I6 B6 OA6
  go_wp2_with fail
  refine (ack_ok w.heap.size w.heap.size _ 1 _ I8.out (by decide) (by decide) (by decide) (by decide) (by decide) (by decide) (by decide)).mono ?_
  rintro e w9 ⟨rfl, i9, g9⟩
  rw [ack1] at i9
  have B9 := Lib.hid (B8.out.trans (below_grown g9 (Nat.le_refl _) B8.out.size))
  have I9 := Lib.hid i9
  have OA9 := Lib.hid (I8.out.own OA8.out (by decide) g9)
  have OX9 := Lib.hid (I8.out.own OX.out (by decide) g9)
  clear i9 g9 I8 B8 OA8 OX
  go_wp2_with fail
  refine (ack_range w.heap.size w.heap.size _ 2 _ I9.out (by decide) (by decide)).mono ?_
  rintro e w10 ⟨rfl, rfl⟩
  go_wp2_with fail
  refine (body_old w.heap.size w.heap.size _ 1 _ I9.out (by decide)).mono ?_
  rintro e w11 ⟨rfl, b11⟩
  have B11 := Lib.hid (below_after B9.out b11 B9.out.size)
  have I11 := Lib.hid (I9.out.below b11)
  have OA11 := Lib.hid (OA9.out.below b11)
  have OX11 := Lib.hid (OX9.out.below b11)
  clear b11 I9 B9 OA9 OX9
  obtain ⟨ga, fa, rfl, _, hca⟩ := OA11.out.rd.2 (by omega)
  obtain ⟨gx, fx, rfl, _, hcx⟩ := OX11.out.rd.2 (by simp)
  have da : w11.cell? ⟨ga, fa, none⟩ = some (.int .i64 1) := hca 0 _ rfl
  have dx : w11.cell? ⟨gx, fx, none⟩ = some (.int .u8 97) := hcx 0 _ rfl
  have hcs : (convert 26 9 (.slice (some ⟨gx, fx, none⟩) 1 cx)).run Try.prog w11 = .ok (.string { data := #[97] }) w11 :=
    run_convert_bytes_arg w11 26 5 Try.underlying26 u8_under gx fx 1 cx [97] rfl (fun i hi => (Nat.lt_one_iff.1 hi) ▸ dx) 9 Try.underlying9
  clear hca hcx
  go_wp2_with fail
  refine (acked_any _ _ _ _ I11.out).mono ?_
  rintro e w12 ⟨rfl, rfl⟩
  simp only []
  go_wp2_with fail
  refine (len_any _ _ _ _ I11.out).mono ?_
  rintro e w13 ⟨rfl, rfl⟩
  simp only [List.length_nil]
  go_wp2_with fail
  refine (due_any _ _ _ _ I11.out).mono ?_
  rintro e w14 ⟨rfl, rfl⟩
  simp only []
  go_wp2_with fail
  refine (put_nil none 0 0 _).mono ?_
  rintro e w15 ⟨rfl, rfl⟩
  go_wp2_with fail
  refine (due_nil _).mono ?_
  rintro e w16 ⟨rfl, rfl⟩
  go_wp2_with fail
  refine (acked_nil _).mono ?_
  rintro e w17 ⟨rfl, rfl⟩
  go_wp2
  go_ret
  exact ⟨rfl, B11.out⟩
end Go.Proofs.Ytpanjdncjdellaa
