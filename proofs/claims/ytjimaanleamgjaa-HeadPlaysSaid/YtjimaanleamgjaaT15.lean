import Derived.Test.YtjimaanleamgjaaT14
namespace Go.Proofs.Ytjimaanleamgjaa
open Go.RowKit

def smp (t : Nat) : Smp := ⟨t, 7 * (t : Int)⟩
/-- The samples are those of f's first j. -/
structure Side (f : Nat → Smp) (j : Nat) (xs : List Smp) : Prop where
  len : xs.length ≤ j
  mem : ∀ a, a ∈ xs ↔ ∃ i, i < j ∧ a = f i
theorem Side.nil (f : Nat → Smp) : Side f 0 [] := ⟨Nat.le_refl _, fun a => by simp⟩
theorem Side.put {f : Nat → Smp} {j : Nat} {xs : List Smp} (h : Side f j xs) (hf : ∀ i, ∃ t, f i = smp t) (hj : j < 64) : Side f (j + 1) (putL 0 xs (f j)) := by
  refine ⟨by have := putL_len 0 xs (f j); have := h.len; omega, fun a => ?_⟩
  have key : a ∈ putL 0 xs (f j) ↔ a = f j ∨ a ∈ xs := by
    constructor
    · exact mem_putL
    · intro ha
      unfold putL
      obtain ⟨t, ht⟩ := hf j
      rw [if_neg (by rw [ht]; show ¬ (t : Int) < 0; omega)]
      by_cases hh : hit (f j).t xs = true
      · rw [if_pos hh]
        rcases ha with rfl | ha
        · obtain ⟨b, hb, hbt⟩ := hit_iff.1 hh
          obtain ⟨i, _, hi⟩ := (h.mem b).1 hb
          obtain ⟨t', ht'⟩ := hf i
          have : b = f j := by
            have e : (t' : Int) = (t : Int) := by rw [hi, ht', ht] at hbt; exact hbt
            have e2 : t' = t := by omega
            rw [hi, ht', ht, e2]
          rw [← this]
          exact hb
        · exact ha
      · rw [if_neg hh, if_neg (by have := h.len; omega)]
        exact mem_ins.2 ha
  rw [key, h.mem]
  constructor
  · rintro (rfl | ⟨i, hi, rfl⟩)
    · exact ⟨j, by omega, rfl⟩
    · exact ⟨i, by omega, rfl⟩
  · rintro ⟨i, hi, rfl⟩
    by_cases e : i = j
    · subst e; exact .inl rfl
    · exact .inr ⟨i, by omega, rfl⟩
/-- Turned round, the same. -/
theorem Side.turned {f : Nat → Smp} {n : Nat} {xs ys : List Smp} (h : Side f n xs) (k : Side (fun i => f (n - 1 - i)) n ys) (ox : Ok 0 xs) (oy : Ok 0 ys) : ys = xs := by
  refine same_of_mem oy.rise ox.rise fun a => ?_
  rw [h.mem, k.mem]
  constructor
  · rintro ⟨i, hi, rfl⟩; exact ⟨n - 1 - i, by omega, rfl⟩
  · rintro ⟨i, hi, rfl⟩; exact ⟨n - 1 - i, by omega, by show f i = f (n - 1 - (n - 1 - i)); congr 1; omega⟩

/-- The time that HeadOrder makes of a number. -/
def tm (zs : List Int) (i : Nat) : Nat := (IntKind.u64.wrap (zs.getD i 0) % 200).toNat
theorem tm_of {zs : List Int} {i : Nat} {x : Int} (h : zs[i]? = some x) : IntKind.u64.wrap x % 200 = (tm zs i : Int) ∧ (tm zs i : Int) < 200 := by
  have e : zs.getD i 0 = x := by simp [List.getD, h]
  obtain ⟨k, hk, hl⟩ := rem_nat x 200 (by omega)
  unfold tm
  rw [e, hk]
  exact ⟨by simp, by simpa using hl⟩
theorem tm_lt (zs : List Int) (i : Nat) : tm zs i < 200 := by
  obtain ⟨k, hk, hl⟩ := rem_nat (zs.getD i 0) 200 (by omega)
  unfold tm
  rw [hk]
  simp
  omega

def OrdAt (w : World) (zs : List Int) (n j : Nat) (wr : World) : Prop :=
  ∃ xa A c xb B d, Var wr w.heap.size 0 A xa.length c ∧ GotS wr xa.length xa A c ∧ Var wr (w.heap.size + 1) 0 B xb.length d ∧ GotS wr xb.length xb B d ∧ Ok 0 xa ∧ Ok 0 xb ∧
    Side (fun i => smp (tm zs i)) j xa ∧ Side (fun i => smp (tm zs (n - 1 - i))) j xb ∧ Below w.heap.size w wr

set_option maxHeartbeats 4000000 in
set_option maxRecDepth 100000 in
/-- HeadOrder's walk. -/
theorem order_any (A0 : Option Addr) (n0 c0 : Nat) (zs : List Int) (w : World) (h : RdI w w.heap.size A0 n0 zs) (hm : n0 ≤ 9223372036854775807) :
    Calls Try.prog 3 #[.slice A0 n0 c0] w fun e w' => e = .returned (.bool true) ∧ Below w.heap.size w w' := by
  have H := Lib.hid h
  clear h
  obtain ⟨n, hn, hnn⟩ : ∃ n : Nat, n ≤ n0 ∧ (20 < n0 ∧ n = 20 ∨ n0 ≤ 20 ∧ n = n0) := by
    by_cases h : 20 < n0
    · exact ⟨20, by omega, .inl ⟨h, rfl⟩⟩
    · exact ⟨n0, by omega, .inr ⟨by omega, rfl⟩⟩
  have n20 : n ≤ 20 := by omega
  have two : (20 < n0 ∧ n = 20) ∨ (n0 ≤ 20 ∧ n = n0) := hnn
  rcases two with ⟨q1, q2⟩ | ⟨q1, q2⟩
  · subst q2
    clear hnn
    go_enter Try.func3, Try.ntmps3
    go_wp2
    go_loopg [6] 20 (fun g v wr => ∃ j : Nat, j ≤ 20 ∧ 20 - j ≤ g ∧ v = .int .i64 j ∧ Hid (OrdAt w zs 20 j wr))
    case atStart => exact ⟨0, by omega, by omega, rfl, [], none, 0, [], none, 0, (Var.new _ _ _ _ _).alloc _, GotS.none_ _, heap_at _ _ _ (by simp), GotS.none_ _, Ok.nil (by omega) (by omega), Ok.nil (by omega) (by omega), Side.nil _, Side.nil _, by go_grown⟩
    case round =>
      obtain ⟨j, hj, hg, rfl, HF⟩ := hrel
      obtain ⟨xa, A, c, xb, B, d, hva, hga, hvb, hgb, hoa, hob, hsa, hsb, hbel⟩ := HF.out
      clear HF
      have a0 := hva.c0
      have a1 := hva.c1
      have fa0 := hva.f 0
      have fa1 := hva.f 1
      have VA := Lib.hid hva
      have GA := Lib.hid hga
      have VB := Lib.hid hvb
      have GB := Lib.hid hgb
      have OA := Lib.hid hoa
      have OB := Lib.hid hob
      have SA := Lib.hid hsa
      have SB := Lib.hid hsb
      have BEL := Lib.hid hbel
      clear hva hga hvb hgb hoa hob hsa hsb hbel
      have wj : IntKind.i64.wrap ((j : Int) + 1) = (j : Int) + 1 := i64_id (by omega) (by omega)
      by_cases hlt : j < 20
      · obtain ⟨b1, o1, x, hA, hb1, hx, hcell⟩ := H.out.at_ j (by omega)
        obtain ⟨b2, o2, y, hA2, hb2, hy, hcell2⟩ := H.out.at_ (20 - 1 - j) (by omega)
        obtain rfl : b1 = b2 := by rw [hA] at hA2; injection hA2 with h; injection h
        obtain rfl : o1 = o2 := by rw [hA] at hA2; injection hA2 with h; injection h
        subst hA
        have hcell := (BEL.out.cell (p := ⟨b1, o1 + j, none⟩) hb1).trans hcell
        have hcell2 := (BEL.out.cell (p := ⟨b1, o1 + (20 - 1 - j), none⟩) hb1).trans hcell2
        have tx := tm_of hx
        have ty := tm_of hy
        have ux := u64_nn x
        have uy := u64_nn y
        have rx : (IntKind.u64.wrap x).tmod 200 = (tm zs j : Int) := by rw [Int.tmod_eq_emod_of_nonneg ux]; exact tx.1
        have ry : (IntKind.u64.wrap y).tmod 200 = (tm zs (20 - 1 - j) : Int) := by rw [Int.tmod_eq_emod_of_nonneg uy]; exact ty.1
        generalize hp : tm zs j = p at tx rx
        generalize hq : tm zs (20 - 1 - j) = q at ty ry
        have pl : (p : Int) < 200 := tx.2
        have ql : (q : Int) < 200 := ty.2
        have HP := Lib.hid hp
        have HQ := Lib.hid hq
        clear tx ty hx hy hA2 hp hq
        have i1 : IntKind.i64.wrap (p : Int) = (p : Int) := i64_id (by omega) (by omega)
        have i2 : IntKind.i64.wrap (q : Int) = (q : Int) := i64_id (by omega) (by omega)
        have i3 : IntKind.i64.wrap ((20 : Int) - 1) = (20 : Int) - 1 := i64_id (by omega) (by omega)
        have i4 : IntKind.i64.wrap ((20 : Int) - 1 - (j : Int)) = (20 : Int) - 1 - (j : Int) := i64_id (by omega) (by omega)
        have i5 : ((20 : Int) - 1 - (j : Int)).toNat = 20 - 1 - j := by omega
        have i6 : 0 ≤ (20 : Int) - 1 - (j : Int) := by omega
        have i7 : (20 : Int) - 1 - (j : Int) < (n0 : Int) := by omega
        have i8 : (j : Int) < (n0 : Int) := by omega
        have i9 : (j : Int) < (20 : Int) := by omega
        have hlt9 : j < n0 := by omega
        go_wp2_with fail
        go_quiet (fail)
        have VA' : Hid (Var (wr.drewN nq) w.heap.size 0 A xa.length c) := VA
        have VB' : Hid (Var (wr.drewN nq) (w.heap.size + 1) 0 B xb.length d) := VB
        have GA' : Hid (GotS (wr.drewN nq) xa.length xa A c) := Lib.hid (GA.out.after (below_drewN (Below.refl _ _) nq))
        have GB' : Hid (GotS (wr.drewN nq) xb.length xb B d) := Lib.hid (GB.out.after (below_drewN (Below.refl _ _) nq))
        have BEL' : Hid (Below w.heap.size w (wr.drewN nq)) := Lib.hid (below_drewN BEL.out nq)
        clear VA VB GA GB BEL a0 a1 fa0 fa1 hcell hcell2 rx ry ux uy i1 i2 i3 i4 i5 i6 i7
        generalize wr.drewN nq = w5 at VA' VB' GA' GB' BEL' ⊢
        have a0 := VA'.out.c0
        have a1 := VA'.out.c1
        have fa0 := VA'.out.f 0
        have fa1 := VA'.out.f 1
        have i1 : IntKind.i64.wrap (7 * (p : Int)) = 7 * (p : Int) := i64_id (by omega) (by omega)
        have i2 : IntKind.i64.wrap (7 * (q : Int)) = 7 * (q : Int) := i64_id (by omega) (by omega)
        go_wp2_with fail
        with_reducible refine (put_any 0 A xa.length c xa ⟨(p : Int), 7 * (p : Int)⟩ w5 GA'.out OA.out (by show (0 : Int) ≤ (p : Int); omega) (by show (p : Int) < _; omega)).mono ?_
        have s2 : Side (fun i => smp (tm zs i)) (j + 1) (putL 0 xa ⟨(p : Int), 7 * (p : Int)⟩) := by
          have := SA.out.put (fun i => ⟨_, rfl⟩) (by omega)
          simp only [HP.out] at this
          exact this
        have ok2 := OA.out.put (s := ⟨(p : Int), 7 * (p : Int)⟩) (by show (p : Int) < _; omega)
        have S2 := Lib.hid s2
        have OK2 := Lib.hid ok2
        clear s2 ok2
        generalize putL 0 xa ⟨(p : Int), 7 * (p : Int)⟩ = ya at S2 OK2 ⊢
        generalize putC 0 xa ⟨(p : Int), 7 * (p : Int)⟩ = cda
        rintro e w6 ⟨A2, c2, rfl, g2, hb⟩
        have hva6 := VA'.out.keep hb
        have hvb6 := VB'.out.keep hb
        have hgb6 := GB'.out.after hb
        have b6 := below_after BEL'.out hb BEL'.out.size
        clear hb a0 a1 fa0 fa1 i1
        have a0 := hva6.c0
        have a1 := hva6.c1
        have fa0 := hva6.f 0
        have fa1 := hva6.f 1
        have d0 := hvb6.c0
        have d1 := hvb6.c1
        have fb0 := hvb6.f 0
        have fb1 := hvb6.f 1
        have VA7 : Hid (Var ((w6.setCell ⟨w.heap.size, 0, none⟩ (.int .i64 0)).setCell ⟨w.heap.size, 1, none⟩ (.slice A2 ya.length c2)) w.heap.size 0 A2 ya.length c2) := Lib.hid (hva6.set 0 A2 ya.length c2).1
        have VB7 : Hid (Var ((w6.setCell ⟨w.heap.size, 0, none⟩ (.int .i64 0)).setCell ⟨w.heap.size, 1, none⟩ (.slice A2 ya.length c2)) (w.heap.size + 1) 0 B xb.length d) := Lib.hid (((hva6.set 0 A2 ya.length c2).2 _ (by omega)).trans hvb6)
        have GA7 := Lib.hid (g2.set hva6 0 A2 ya.length c2)
        have GB7 := Lib.hid (hgb6.set hva6 0 A2 ya.length c2)
        have B7 : Hid (Below w.heap.size w ((w6.setCell ⟨w.heap.size, 0, none⟩ (.int .i64 0)).setCell ⟨w.heap.size, 1, none⟩ (.slice A2 ya.length c2))) := Lib.hid ((b6.setCell (Nat.le_refl _) _).setCell (Nat.le_refl _) _)
        clear hva6 hvb6 hgb6 b6 g2 VA' VB' GA' GB' BEL'
        go_wp2_with fail
        clear a0 a1 fa0 fa1 d0 d1 fb0 fb1
        generalize ((w6.setCell ⟨w.heap.size, 0, none⟩ (.int .i64 0)).setCell ⟨w.heap.size, 1, none⟩ (.slice A2 ya.length c2)) = w7 at VA7 VB7 GA7 GB7 B7 ⊢
        with_reducible refine (put_any 0 B xb.length d xb ⟨(q : Int), 7 * (q : Int)⟩ w7 GB7.out OB.out (by show (0 : Int) ≤ (q : Int); omega) (by show (q : Int) < _; omega)).mono ?_
        have s3 : Side (fun i => smp (tm zs (20 - 1 - i))) (j + 1) (putL 0 xb ⟨(q : Int), 7 * (q : Int)⟩) := by
          have := SB.out.put (fun i => ⟨_, rfl⟩) (by omega)
          simp only [HQ.out] at this
          exact this
        have ok3 := OB.out.put (s := ⟨(q : Int), 7 * (q : Int)⟩) (by show (q : Int) < _; omega)
        have S3 := Lib.hid s3
        have OK3 := Lib.hid ok3
        clear s3 ok3
        generalize putL 0 xb ⟨(q : Int), 7 * (q : Int)⟩ = yb at S3 OK3 ⊢
        generalize putC 0 xb ⟨(q : Int), 7 * (q : Int)⟩ = cdb
        rintro e w8 ⟨B2, d2, rfl, g3, hb⟩
        have hva8 := VA7.out.keep hb
        have hvb8 := VB7.out.keep hb
        have hga8 := GA7.out.after hb
        have b8 := below_after B7.out hb B7.out.size
        clear hb
        have d0 := hvb8.c0
        have d1 := hvb8.c1
        have fb0 := hvb8.f 0
        have fb1 := hvb8.f 1
        have FIN : Hid (OrdAt w zs 20 (j + 1) ((w8.setCell ⟨w.heap.size + 1, 0, none⟩ (.int .i64 0)).setCell ⟨w.heap.size + 1, 1, none⟩ (.slice B2 yb.length d2))) :=
          Lib.hid ⟨ya, A2, c2, yb, B2, d2, ((hvb8.set 0 B2 yb.length d2).2 _ (by omega)).trans hva8, hga8.set hvb8 _ _ _ _, (hvb8.set 0 B2 yb.length d2).1, g3.set hvb8 _ _ _ _, OK2.out, OK3.out, S2.out, S3.out, (b8.setCell (by show _ ≤ w.heap.size + 1; omega) _).setCell (by show _ ≤ w.heap.size + 1; omega) _⟩
        clear hva8 hvb8 hga8 b8 g3 i2
        go_wp2
        go_roundg (20 - (j + 1))
        case measure => omega
        case rel => exact ⟨j + 1, by omega, by omega, by go_num, FIN⟩
      · have hjn : j = 20 := by omega
        have hxx : xb = xa := by
          have sa := SA.out
          have sb := SB.out
          rw [hjn] at sa sb
          exact sa.turned sb OA.out OB.out
        have m1 : xa.length ≤ 64 := OA.out.len
        subst hxx
        have HJ := Lib.hid hjn
        clear hjn
        have i9 : ¬ (j : Int) < (20 : Int) := by omega
        go_wp2_with fail
        refine (told_any _).mono ?_
        rintro e w1 ⟨rfl, hb⟩
        have hva1 := VA.out.keep hb
        have hvb1 := VB.out.keep hb
        have hga1 := GA.out.after hb
        have hgb1 := GB.out.after hb
        have b1 := below_after BEL.out hb BEL.out.size
        clear hb a0 a1 fa0 fa1
        have a0 := hva1.c0
        have a1 := hva1.c1
        have d0 := hvb1.c0
        have d1 := hvb1.c1
        have VA1 := Lib.hid hva1
        have GA1 := Lib.hid hga1
        have GB1 := Lib.hid hgb1
        clear hva1 hvb1 hga1 hgb1
        go_wp2_with fail
        refine (same_yes 0 A B xb.length c d xb w1 GA1.out.rd GB1.out.rd m1).mono ?_
        rintro e w2 ⟨rfl, hb⟩
        have hva2 := VA1.out.keep hb
        have hga2 := GA1.out.after hb
        have b2 := below_after b1 hb b1.size
        clear hb a0 a1 d0 d1
        have a0 := hva2.c0
        have a1 := hva2.c1
        have GA2 := Lib.hid hga2
        clear hva2 hga2
        go_wp2_with fail
        refine (may_any 0 A xb.length c xb w2 GA2.out.rd OB.out).mono ?_
        rintro e w3 ⟨rfl, hb⟩
        have b3 := below_after b2 hb b2.size
        clear hb
        go_wp2
        go_ret
        exact ⟨rfl, b3⟩
  · subst q2
    clear hnn
    go_enter Try.func3, Try.ntmps3
    go_wp2
    go_loopg [6] n (fun g v wr => ∃ j : Nat, j ≤ n ∧ n - j ≤ g ∧ v = .int .i64 j ∧ Hid (OrdAt w zs n j wr))
    case atStart => exact ⟨0, by omega, by omega, rfl, [], none, 0, [], none, 0, (Var.new _ _ _ _ _).alloc _, GotS.none_ _, heap_at _ _ _ (by simp), GotS.none_ _, Ok.nil (by omega) (by omega), Ok.nil (by omega) (by omega), Side.nil _, Side.nil _, by go_grown⟩
    case round =>
      obtain ⟨j, hj, hg, rfl, HF⟩ := hrel
      obtain ⟨xa, A, c, xb, B, d, hva, hga, hvb, hgb, hoa, hob, hsa, hsb, hbel⟩ := HF.out
      clear HF
      have a0 := hva.c0
      have a1 := hva.c1
      have fa0 := hva.f 0
      have fa1 := hva.f 1
      have VA := Lib.hid hva
      have GA := Lib.hid hga
      have VB := Lib.hid hvb
      have GB := Lib.hid hgb
      have OA := Lib.hid hoa
      have OB := Lib.hid hob
      have SA := Lib.hid hsa
      have SB := Lib.hid hsb
      have BEL := Lib.hid hbel
      clear hva hga hvb hgb hoa hob hsa hsb hbel
      have wj : IntKind.i64.wrap ((j : Int) + 1) = (j : Int) + 1 := i64_id (by omega) (by omega)
      by_cases hlt : j < n
      · obtain ⟨b1, o1, x, hA, hb1, hx, hcell⟩ := H.out.at_ j (by omega)
        obtain ⟨b2, o2, y, hA2, hb2, hy, hcell2⟩ := H.out.at_ (n - 1 - j) (by omega)
        obtain rfl : b1 = b2 := by rw [hA] at hA2; injection hA2 with h; injection h
        obtain rfl : o1 = o2 := by rw [hA] at hA2; injection hA2 with h; injection h
        subst hA
        have hcell := (BEL.out.cell (p := ⟨b1, o1 + j, none⟩) hb1).trans hcell
        have hcell2 := (BEL.out.cell (p := ⟨b1, o1 + (n - 1 - j), none⟩) hb1).trans hcell2
        have tx := tm_of hx
        have ty := tm_of hy
        have ux := u64_nn x
        have uy := u64_nn y
        have rx : (IntKind.u64.wrap x).tmod 200 = (tm zs j : Int) := by rw [Int.tmod_eq_emod_of_nonneg ux]; exact tx.1
        have ry : (IntKind.u64.wrap y).tmod 200 = (tm zs (n - 1 - j) : Int) := by rw [Int.tmod_eq_emod_of_nonneg uy]; exact ty.1
        generalize hp : tm zs j = p at tx rx
        generalize hq : tm zs (n - 1 - j) = q at ty ry
        have pl : (p : Int) < 200 := tx.2
        have ql : (q : Int) < 200 := ty.2
        have HP := Lib.hid hp
        have HQ := Lib.hid hq
        clear tx ty hx hy hA2 hp hq
        have i1 : IntKind.i64.wrap (p : Int) = (p : Int) := i64_id (by omega) (by omega)
        have i2 : IntKind.i64.wrap (q : Int) = (q : Int) := i64_id (by omega) (by omega)
        have i3 : IntKind.i64.wrap ((n : Int) - 1) = (n : Int) - 1 := i64_id (by omega) (by omega)
        have i4 : IntKind.i64.wrap ((n : Int) - 1 - (j : Int)) = (n : Int) - 1 - (j : Int) := i64_id (by omega) (by omega)
        have i5 : ((n : Int) - 1 - (j : Int)).toNat = n - 1 - j := by omega
        have i6 : 0 ≤ (n : Int) - 1 - (j : Int) := by omega
        have i7 : (n : Int) - 1 - (j : Int) < (n : Int) := by omega
        have i8 : (j : Int) < (n : Int) := by omega
        have i9 : (j : Int) < (n : Int) := by omega
        have hlt9 : j < n := by omega
        go_wp2_with fail
        go_quiet (fail)
        have VA' : Hid (Var (wr.drewN nq) w.heap.size 0 A xa.length c) := VA
        have VB' : Hid (Var (wr.drewN nq) (w.heap.size + 1) 0 B xb.length d) := VB
        have GA' : Hid (GotS (wr.drewN nq) xa.length xa A c) := Lib.hid (GA.out.after (below_drewN (Below.refl _ _) nq))
        have GB' : Hid (GotS (wr.drewN nq) xb.length xb B d) := Lib.hid (GB.out.after (below_drewN (Below.refl _ _) nq))
        have BEL' : Hid (Below w.heap.size w (wr.drewN nq)) := Lib.hid (below_drewN BEL.out nq)
        clear VA VB GA GB BEL a0 a1 fa0 fa1 hcell hcell2 rx ry ux uy i1 i2 i3 i4 i5 i6 i7
        generalize wr.drewN nq = w5 at VA' VB' GA' GB' BEL' ⊢
        have a0 := VA'.out.c0
        have a1 := VA'.out.c1
        have fa0 := VA'.out.f 0
        have fa1 := VA'.out.f 1
        have i1 : IntKind.i64.wrap (7 * (p : Int)) = 7 * (p : Int) := i64_id (by omega) (by omega)
        have i2 : IntKind.i64.wrap (7 * (q : Int)) = 7 * (q : Int) := i64_id (by omega) (by omega)
        go_wp2_with fail
        with_reducible refine (put_any 0 A xa.length c xa ⟨(p : Int), 7 * (p : Int)⟩ w5 GA'.out OA.out (by show (0 : Int) ≤ (p : Int); omega) (by show (p : Int) < _; omega)).mono ?_
        have s2 : Side (fun i => smp (tm zs i)) (j + 1) (putL 0 xa ⟨(p : Int), 7 * (p : Int)⟩) := by
          have := SA.out.put (fun i => ⟨_, rfl⟩) (by omega)
          simp only [HP.out] at this
          exact this
        have ok2 := OA.out.put (s := ⟨(p : Int), 7 * (p : Int)⟩) (by show (p : Int) < _; omega)
        have S2 := Lib.hid s2
        have OK2 := Lib.hid ok2
        clear s2 ok2
        generalize putL 0 xa ⟨(p : Int), 7 * (p : Int)⟩ = ya at S2 OK2 ⊢
        generalize putC 0 xa ⟨(p : Int), 7 * (p : Int)⟩ = cda
        rintro e w6 ⟨A2, c2, rfl, g2, hb⟩
        have hva6 := VA'.out.keep hb
        have hvb6 := VB'.out.keep hb
        have hgb6 := GB'.out.after hb
        have b6 := below_after BEL'.out hb BEL'.out.size
        clear hb a0 a1 fa0 fa1 i1
        have a0 := hva6.c0
        have a1 := hva6.c1
        have fa0 := hva6.f 0
        have fa1 := hva6.f 1
        have d0 := hvb6.c0
        have d1 := hvb6.c1
        have fb0 := hvb6.f 0
        have fb1 := hvb6.f 1
        have VA7 : Hid (Var ((w6.setCell ⟨w.heap.size, 0, none⟩ (.int .i64 0)).setCell ⟨w.heap.size, 1, none⟩ (.slice A2 ya.length c2)) w.heap.size 0 A2 ya.length c2) := Lib.hid (hva6.set 0 A2 ya.length c2).1
        have VB7 : Hid (Var ((w6.setCell ⟨w.heap.size, 0, none⟩ (.int .i64 0)).setCell ⟨w.heap.size, 1, none⟩ (.slice A2 ya.length c2)) (w.heap.size + 1) 0 B xb.length d) := Lib.hid (((hva6.set 0 A2 ya.length c2).2 _ (by omega)).trans hvb6)
        have GA7 := Lib.hid (g2.set hva6 0 A2 ya.length c2)
        have GB7 := Lib.hid (hgb6.set hva6 0 A2 ya.length c2)
        have B7 : Hid (Below w.heap.size w ((w6.setCell ⟨w.heap.size, 0, none⟩ (.int .i64 0)).setCell ⟨w.heap.size, 1, none⟩ (.slice A2 ya.length c2))) := Lib.hid ((b6.setCell (Nat.le_refl _) _).setCell (Nat.le_refl _) _)
        clear hva6 hvb6 hgb6 b6 g2 VA' VB' GA' GB' BEL'
        go_wp2_with fail
        clear a0 a1 fa0 fa1 d0 d1 fb0 fb1
        generalize ((w6.setCell ⟨w.heap.size, 0, none⟩ (.int .i64 0)).setCell ⟨w.heap.size, 1, none⟩ (.slice A2 ya.length c2)) = w7 at VA7 VB7 GA7 GB7 B7 ⊢
        with_reducible refine (put_any 0 B xb.length d xb ⟨(q : Int), 7 * (q : Int)⟩ w7 GB7.out OB.out (by show (0 : Int) ≤ (q : Int); omega) (by show (q : Int) < _; omega)).mono ?_
        have s3 : Side (fun i => smp (tm zs (n - 1 - i))) (j + 1) (putL 0 xb ⟨(q : Int), 7 * (q : Int)⟩) := by
          have := SB.out.put (fun i => ⟨_, rfl⟩) (by omega)
          simp only [HQ.out] at this
          exact this
        have ok3 := OB.out.put (s := ⟨(q : Int), 7 * (q : Int)⟩) (by show (q : Int) < _; omega)
        have S3 := Lib.hid s3
        have OK3 := Lib.hid ok3
        clear s3 ok3
        generalize putL 0 xb ⟨(q : Int), 7 * (q : Int)⟩ = yb at S3 OK3 ⊢
        generalize putC 0 xb ⟨(q : Int), 7 * (q : Int)⟩ = cdb
        rintro e w8 ⟨B2, d2, rfl, g3, hb⟩
        have hva8 := VA7.out.keep hb
        have hvb8 := VB7.out.keep hb
        have hga8 := GA7.out.after hb
        have b8 := below_after B7.out hb B7.out.size
        clear hb
        have d0 := hvb8.c0
        have d1 := hvb8.c1
        have fb0 := hvb8.f 0
        have fb1 := hvb8.f 1
        have FIN : Hid (OrdAt w zs n (j + 1) ((w8.setCell ⟨w.heap.size + 1, 0, none⟩ (.int .i64 0)).setCell ⟨w.heap.size + 1, 1, none⟩ (.slice B2 yb.length d2))) :=
          Lib.hid ⟨ya, A2, c2, yb, B2, d2, ((hvb8.set 0 B2 yb.length d2).2 _ (by omega)).trans hva8, hga8.set hvb8 _ _ _ _, (hvb8.set 0 B2 yb.length d2).1, g3.set hvb8 _ _ _ _, OK2.out, OK3.out, S2.out, S3.out, (b8.setCell (by show _ ≤ w.heap.size + 1; omega) _).setCell (by show _ ≤ w.heap.size + 1; omega) _⟩
        clear hva8 hvb8 hga8 b8 g3 i2
        go_wp2
        go_roundg (n - (j + 1))
        case measure => omega
        case rel => exact ⟨j + 1, by omega, by omega, by go_num, FIN⟩
      · have hjn : j = n := by omega
        have hxx : xb = xa := by
          have sa := SA.out
          have sb := SB.out
          rw [hjn] at sa sb
          exact sa.turned sb OA.out OB.out
        have m1 : xa.length ≤ 64 := OA.out.len
        subst hxx
        have HJ := Lib.hid hjn
        clear hjn
        have i9 : ¬ (j : Int) < (n : Int) := by omega
        go_wp2_with fail
        refine (told_any _).mono ?_
        rintro e w1 ⟨rfl, hb⟩
        have hva1 := VA.out.keep hb
        have hvb1 := VB.out.keep hb
        have hga1 := GA.out.after hb
        have hgb1 := GB.out.after hb
        have b1 := below_after BEL.out hb BEL.out.size
        clear hb a0 a1 fa0 fa1
        have a0 := hva1.c0
        have a1 := hva1.c1
        have d0 := hvb1.c0
        have d1 := hvb1.c1
        have VA1 := Lib.hid hva1
        have GA1 := Lib.hid hga1
        have GB1 := Lib.hid hgb1
        clear hva1 hvb1 hga1 hgb1
        go_wp2_with fail
        refine (same_yes 0 A B xb.length c d xb w1 GA1.out.rd GB1.out.rd m1).mono ?_
        rintro e w2 ⟨rfl, hb⟩
        have hva2 := VA1.out.keep hb
        have hga2 := GA1.out.after hb
        have b2 := below_after b1 hb b1.size
        clear hb a0 a1 d0 d1
        have a0 := hva2.c0
        have a1 := hva2.c1
        have GA2 := Lib.hid hga2
        clear hva2 hga2
        go_wp2_with fail
        refine (may_any 0 A xb.length c xb w2 GA2.out.rd OB.out).mono ?_
        rintro e w3 ⟨rfl, hb⟩
        have b3 := below_after b2 hb b2.size
        clear hb
        go_wp2
        go_ret
        exact ⟨rfl, b3⟩

theorem order_row (a0 : Option Addr) (len0 cap0 : Nat) (z0 : List Int) (w : World) (w0 : IsRow .i64 w a0 len0 cap0 z0) :
    Calls Try.prog 3 #[.slice a0 len0 cap0] w fun e w' => e = .returned (.bool true) ∧ Below w.heap.size w w' := by
  obtain ⟨ys, h, hm⟩ := w0.rd
  exact order_any a0 len0 cap0 ys w h hm
end Go.Proofs.Ytjimaanleamgjaa
