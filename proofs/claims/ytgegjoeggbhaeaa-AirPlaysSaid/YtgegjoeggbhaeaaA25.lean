import Derived.Test.YtgegjoeggbhaeaaA24
import Derived.Deep.CutRange
namespace Go.Proofs.Ytgegjoeggbhaeaa
open Go.RowKit Go.Conc

set_option maxHeartbeats 16000000 in
set_option maxRecDepth 100000 in
/-- AirPlays' walk. -/
theorem plays_row (A : Option Addr) (n c : Nat) (os : List OpRow) (w : World) (H : RdO w w.heap.size A n os) (hnc : n ≤ c) (hc : c ≤ maxLen) :
    Calls Try.prog 3 #[.slice A n c] w fun e w' => e = .returned (.bool true) ∧ Below w.heap.size w w' := by
  have HH := Lib.hid H
  unfold maxLen at hc
  clear H
  by_cases hbig : 150 < n
  · have hbig' : (150 : Int) < (n : Int) := by omega
    go_enter Try.func3, Try.ntmps3
    go_wp2_with fail
    refine (new_air w).mono ?_
    rintro e w1 ⟨g, h, rfl, a1, b1⟩
    have B1 := Lib.hid ((b1.alloc b1.size (.cells #[.slice none 0 0] 28)))
    clear a1 b1
    go_wp2_with fail
    refine (told_any _).mono ?_
    rintro e w2 ⟨rfl, b2⟩
    have B2 := Lib.hid (B1.out.trans (b2.mono B1.out.size))
    clear B1 b2
    go_wp2
    go_ret
    exact ⟨rfl, B2.out⟩
  · have hbig' : ¬ (150 : Int) < (n : Int) := by omega
    go_enter Try.func3, Try.ntmps3
    go_wp2_with fail
    refine (new_air w).mono ?_
    rintro e w1 ⟨g, h, rfl, a1, b1⟩
    have P0 : Hid (PlayAt w (w1.alloc (.cells #[.slice none 0 0] 28)) g h w1.heap.size 0) := Lib.hid ⟨_, _, [], Nat.le_refl _, two_new a1 b1, b1.alloc b1.size _, by simp⟩
    clear a1 b1
    go_wp2_with fail
    generalize w1.heap.size = p at P0 ⊢
    go_loopg [5] n (fun m x5 wr => ∃ i : Nat, i ≤ n ∧ n - i ≤ m ∧ x5 = .int .i64 i ∧ Hid (PlayAt w wr g h p i))
    case atStart => exact ⟨0, by omega, by omega, rfl, P0⟩
    case round =>
      clear P0
      obtain ⟨i, hi, hm, rfl, HF⟩ := hrel
      obtain ⟨v, u, s, hs, hp⟩ := HF.out
      have P := Lib.hid hp
      clear HF hp
      have wi : IntKind.i64.wrap ((i : Int) + 1) = (i : Int) + 1 := i64_id (by omega) (by omega)
      by_cases hlt : i < n
      · have hlt' : (i : Int) < (n : Int) := by omega
        have ho : os[i]? = some (os[i]'(by have := HH.out.len; omega)) := by simp
        obtain ⟨b, off, rfl, k0, k1, k2, k3, hbl⟩ := HH.out.cells P.out.below ho
        have OK := Lib.hid (HH.out.ok _ (List.mem_of_getElem? ho))
        clear ho
        generalize (os[i]'(by have := HH.out.len; omega)) = o at k0 k1 k2 k3 OK
        obtain ⟨kind, tt, num, Ad, ld, cd, body⟩ := o
        dsimp only at k0 k1 k2 k3
        have TOS := Lib.hid P.out.tos
        have M2 := Lib.hid (Mid.new P.out (.int .i64 kind) (.int .i64 tt) (.int .i64 num) (.slice Ad ld cd))
        by_cases h40 : 40 < ld
        · have h40' : (40 : Int) < (ld : Int) := by omega
          go_wp2_with fail
          generalize wr.heap.size = bo at M2 ⊢
          generalize wr.alloc (.cells #[.int .i64 kind, .int .i64 tt, .int .i64 num, .slice Ad ld cd] 32) = w2 at M2 ⊢
          clear k0 k1 k2 k3
          refine (told_any _).mono ?_
          rintro e w3 ⟨rfl, b3⟩
          have B3 := Lib.hid (M2.out.below.trans (b3.mono M2.out.below.size))
          clear b3 M2
          go_wp2
          try rw [Exit.noGoto_ret]
          go_ret
          exact ⟨rfl, B3.out⟩
        · have hl40 : ld ≤ 40 := by omega
          have h40' : ¬ (40 : Int) < (ld : Int) := by omega
          obtain ⟨kk, hk7, e1, e2, e3⟩ := kind_nat kind
          have e4 : (kind.tmod 7 + 7) % 7 = (kk : Int) := by rw [← Int.tmod_eq_emod_of_nonneg (by omega)]; exact e1
          go_upto_region 12 with fail
          generalize hbo : wr.heap.size = bo at M2 ⊢
          generalize hw2 : wr.alloc (.cells #[.int .i64 kind, .int .i64 tt, .int .i64 num, .slice Ad ld cd] 32) = w2 at M2 ⊢
          have OK2 := Lib.hid (OK.out.on M2.out.below)
          clear k0 k1 k2 k3 hbo hw2
          have c0 := M2.out.c0
          have c1 := M2.out.c1
          have c2 := M2.out.c2
          have c3 := M2.out.c3
          rcases (show kk < 3 ∨ (3 ≤ kk ∧ kk < 5) ∨ kk = 5 ∨ kk = 6 by omega) with h3 | ⟨h3, h5⟩ | rfl | rfl
          · have h3' : (kk : Int) < 3 := by omega
            by_cases hto : 0 ≤ tt ∧ tt < 3
            · obtain ⟨t0, t1⟩ := hto
              have t2 : tt ≤ 2 := by omega
              go_wp2_with fail
              refine (post_ok w.heap.size g h v s tt Ad ld cd body w2 M2.out.two.air M2.out.size t0 t1 OK2.out.rd OK2.out.nil (by omega) (by omega) (by have := fly_len s; omega)).mono ?_
              rintro e w3 ⟨v3, rfl, a3, t3⟩
              have M3 := Lib.hid (M2.out.A a3 t3)
              have OK3 := Lib.hid (OK.out.on M3.out.below)
              have hcs : (convert 30 9 (.slice Ad ld cd)).run Try.prog w3 = .ok (.string (strOfNums body)) w3 := conv_rd OK3.out.rd
              clear a3 t3 M2 OK2 c0 c1 c2 c3
              have c1 := M3.out.c1
              have c2 := M3.out.c2
              have c3 := M3.out.c3
              go_wp2_with fail
              refine (rpost_ok w.heap.size p u s tt (strOfNums body) w3 M3.out.two.ref M3.out.size t0 t2 (by rw [strOfNums_size, ← OK3.out.len_eq]; exact Nat.le_trans hl40 (by omega)) (by omega)).mono ?_
              rw [numsOf_str body OK3.out.byte]
              rintro e w4 ⟨u4, rfl, a4, t4⟩
              have M4 := Lib.hid (M3.out.R a4 t4)
              clear a4 t4 M3 OK3 hcs c1 c2 c3
              go_wp2_with fail
              refine (same_any w.heap.size g h p _ _ _ _ M4.out.two M4.out.size (by simp; omega)).mono ?_
              rintro e w9 ⟨rfl, tw, bl⟩
              have P9 : Hid (PlayAt w w9 g h p (i + 1)) := Lib.hid ⟨_, _, _, by simp; omega, ⟨tw, M4.out.below.trans bl, by intro r hr; rcases List.mem_append.1 hr with hr | hr; exact TOS.out r hr; obtain rfl := List.mem_singleton.1 hr; exact ⟨t0, t1⟩⟩⟩
              clear tw bl M4
              go_wp2
              go_roundg (n - (i + 1))
              case measure => omega
              case rel => exact ⟨i + 1, by omega, by omega, by go_num, P9.out⟩
            · have hto' : tt < 0 ∨ 2 < tt := by omega
              go_wp2_with fail
              refine (post_arg w.heap.size g h v s tt Ad ld cd w2 M2.out.two.air (by omega)).mono ?_
              rintro e w3 ⟨rfl, rfl⟩
              have hcs : (convert 30 9 (.slice Ad ld cd)).run Try.prog w3 = .ok (.string (strOfNums body)) w3 := conv_rd OK2.out.rd
              go_wp2_with fail
              refine (rpost_arg p tt (strOfNums body) w3 hto').mono ?_
              rintro e w4 ⟨rfl, rfl⟩
              clear hcs OK2 c0 c1 c2 c3
              go_wp2_with fail
              refine (same_any w.heap.size g h p _ _ _ _ M2.out.two M2.out.size (by omega)).mono ?_
              rintro e w9 ⟨rfl, tw, bl⟩
              have P9 : Hid (PlayAt w w9 g h p (i + 1)) := Lib.hid ⟨_, _, _, by omega, ⟨tw, M2.out.below.trans bl, by exact TOS.out⟩⟩
              clear tw bl M2
              go_wp2
              go_roundg (n - (i + 1))
              case measure => omega
              case rel => exact ⟨i + 1, by omega, by omega, by go_num, P9.out⟩
          · have h3' : ¬ (kk : Int) < 3 := by omega
            have h5' : (kk : Int) < 5 := by omega
            rcases fly_or s num with ⟨k, r, rfl, hr, hg⟩ | hno
            · have RT := Lib.hid (TOS.out r (List.mem_of_getElem? hr))
              have HR := Lib.hid (And.intro hr hg)
              clear hr hg
              go_wp2_with fail
              refine (come_yes w.heap.size g h v s k r w2 M2.out.two.air M2.out.size HR.out.1 HR.out.2).mono ?_
              rintro e w3 ⟨bv, rfl, o3, a3, t3⟩
              have M3 := Lib.hid (M2.out.A a3 t3)
              have O3 := Lib.hid o3
              clear a3 t3 o3 M2 OK2 c0 c1 c2 c3
              have c1 := M3.out.c1
              have c2 := M3.out.c2
              have c3 := M3.out.c3
              go_wp2_with fail
              refine (rcome_yes w.heap.size p u s k r w3 M3.out.two.ref HR.out.1 HR.out.2).mono ?_
              rintro e w4 ⟨rfl, a4, t4⟩
              have M4 := Lib.hid (M3.out.R a4 t4)
              have O4 := M3.out.two.ref.own5 t4 O3.out
              obtain ⟨Ab, cb, rfl, _, _, _⟩ := O4.form
              have hcs : (convert 30 9 (.slice Ab r.body.length cb)).run Try.prog w4 = .ok (.string (strOfNums r.body)) w4 := conv_own O4
              clear a4 t4 M3 O3 O4 c1 c2 c3
              go_wp2_with fail
              refine (same_any w.heap.size g h p _ _ _ _ M4.out.two M4.out.size (by rw [lose_len]; omega)).mono ?_
              rintro e w9 ⟨rfl, tw, bl⟩
              have P9 : Hid (PlayAt w w9 g h p (i + 1)) := Lib.hid ⟨_, _, _, by rw [lose_len]; omega, ⟨tw, M4.out.below.trans bl, by exact lose_tos TOS.out k⟩⟩
              clear tw bl M4
              go_wp2
              go_roundg (n - (i + 1))
              case measure => omega
              case rel => exact ⟨i + 1, by omega, by omega, by go_num, P9.out⟩
            · have HNO := Lib.hid hno
              clear hno
              go_wp2_with fail
              refine (come_no w.heap.size g h v s num w2 M2.out.two.air HNO.out).mono ?_
              rintro e w3 ⟨rfl, a3, t3⟩
              have M3 := Lib.hid (M2.out.A a3 t3)
              have hcs : (convert 30 9 (.slice none 0 0)).run Try.prog w3 = .ok (.string { data := #[] }) w3 := conv_rd (body := []) (Rd.nil_ w3 0 1 none)
              clear a3 t3 M2 OK2 c0 c1 c2 c3
              have c1 := M3.out.c1
              have c2 := M3.out.c2
              have c3 := M3.out.c3
              go_wp2_with fail
              refine (rcome_no w.heap.size p u s num w3 M3.out.two.ref HNO.out).mono ?_
              rintro e w4 ⟨rfl, rfl⟩
              clear c1 c2 c3
              go_wp2_with fail
              refine (same_any w.heap.size g h p _ _ _ _ M3.out.two M3.out.size (by omega)).mono ?_
              rintro e w9 ⟨rfl, tw, bl⟩
              have P9 : Hid (PlayAt w w9 g h p (i + 1)) := Lib.hid ⟨_, _, _, by omega, ⟨tw, M3.out.below.trans bl, by exact TOS.out⟩⟩
              clear tw bl M3
              go_wp2
              go_roundg (n - (i + 1))
              case measure => omega
              case rel => exact ⟨i + 1, by omega, by omega, by go_num, P9.out⟩
          · have e5 : (((5 : Nat) : Int)) = 5 := rfl
            rcases fly_or s num with ⟨k, r, rfl, hr, hg⟩ | hno
            · have HR := Lib.hid (And.intro hr hg)
              clear hr hg
              go_wp2_with fail
              refine (rcome_yes w.heap.size p u s k r w2 M2.out.two.ref HR.out.1 HR.out.2).mono ?_
              rintro e w3 ⟨rfl, a3, t3⟩
              have M3 := Lib.hid (M2.out.R a3 t3)
              clear a3 t3 M2 OK2 c0 c1 c2 c3
              have c1 := M3.out.c1
              have c2 := M3.out.c2
              have c3 := M3.out.c3
              go_wp2_with fail
              refine (lose_yes w.heap.size g h v s k r w3 M3.out.two.air HR.out.1 HR.out.2).mono ?_
              rintro e w4 ⟨rfl, a4, t4⟩
              have M4 := Lib.hid (M3.out.A a4 t4)
              clear a4 t4 M3 c1 c2 c3
              go_wp2_with fail
              refine (same_any w.heap.size g h p _ _ _ _ M4.out.two M4.out.size (by rw [lose_len]; omega)).mono ?_
              rintro e w9 ⟨rfl, tw, bl⟩
              have P9 : Hid (PlayAt w w9 g h p (i + 1)) := Lib.hid ⟨_, _, _, by rw [lose_len]; omega, ⟨tw, M4.out.below.trans bl, by exact lose_tos TOS.out k⟩⟩
              clear tw bl M4
              go_wp2
              go_roundg (n - (i + 1))
              case measure => omega
              case rel => exact ⟨i + 1, by omega, by omega, by go_num, P9.out⟩
            · have HNO := Lib.hid hno
              clear hno
              go_wp2_with fail
              refine (rcome_no w.heap.size p u s num w2 M2.out.two.ref HNO.out).mono ?_
              rintro e w3 ⟨rfl, rfl⟩
              go_wp2_with fail
              refine (lose_no w.heap.size g h v s num w3 M2.out.two.air HNO.out).mono ?_
              rintro e w4 ⟨rfl, a4, t4⟩
              have M4 := Lib.hid (M2.out.A a4 t4)
              clear a4 t4 M2 OK2 c0 c1 c2 c3
              go_wp2_with fail
              refine (same_any w.heap.size g h p _ _ _ _ M4.out.two M4.out.size (by omega)).mono ?_
              rintro e w9 ⟨rfl, tw, bl⟩
              have P9 : Hid (PlayAt w w9 g h p (i + 1)) := Lib.hid ⟨_, _, _, by omega, ⟨tw, M4.out.below.trans bl, by exact TOS.out⟩⟩
              clear tw bl M4
              go_wp2
              go_roundg (n - (i + 1))
              case measure => omega
              case rel => exact ⟨i + 1, by omega, by omega, by go_num, P9.out⟩
          · have e6 : (((6 : Nat) : Int)) = 6 := rfl
            rcases fly_or s num with ⟨k, r, rfl, hr, hg⟩ | hno
            · have RT := Lib.hid (TOS.out r (List.mem_of_getElem? hr))
              have HR := Lib.hid (And.intro hr hg)
              clear hr hg
              go_wp2_with fail
              refine (double_ok w.heap.size g h v s k r w2 M2.out.two.air M2.out.size HR.out.1 HR.out.2 RT.out (by omega) (by have := fly_len s; omega)).mono ?_
              rintro e w3 ⟨v3, rfl, a3, t3⟩
              have M3 := Lib.hid (M2.out.A a3 t3)
              clear a3 t3 M2 OK2 c0 c1 c2 c3
              have c1 := M3.out.c1
              have c2 := M3.out.c2
              have c3 := M3.out.c3
              go_wp2_with fail
              refine (rdouble_ok w.heap.size p u s k r w3 M3.out.two.ref M3.out.size HR.out.1 HR.out.2 (by omega)).mono ?_
              rintro e w4 ⟨u4, rfl, a4, t4⟩
              have M4 := Lib.hid (M3.out.R a4 t4)
              clear a4 t4 M3 c1 c2 c3
              go_wp2_with fail
              refine (same_any w.heap.size g h p _ _ _ _ M4.out.two M4.out.size (by simp; omega)).mono ?_
              rintro e w9 ⟨rfl, tw, bl⟩
              have P9 : Hid (PlayAt w w9 g h p (i + 1)) := Lib.hid ⟨_, _, _, by simp; omega, ⟨tw, M4.out.below.trans bl, by intro r' hr; rcases List.mem_append.1 hr with hr | hr; exact TOS.out r' hr; obtain rfl := List.mem_singleton.1 hr; exact RT.out⟩⟩
              clear tw bl M4
              go_wp2
              go_roundg (n - (i + 1))
              case measure => omega
              case rel => exact ⟨i + 1, by omega, by omega, by go_num, P9.out⟩
            · have HNO := Lib.hid hno
              clear hno
              go_wp2_with fail
              refine (double_no w.heap.size g h v s num w2 M2.out.two.air HNO.out).mono ?_
              rintro e w3 ⟨rfl, a3, t3⟩
              have M3 := Lib.hid (M2.out.A a3 t3)
              clear a3 t3 M2 OK2 c0 c1 c2 c3
              have c1 := M3.out.c1
              have c2 := M3.out.c2
              have c3 := M3.out.c3
              go_wp2_with fail
              refine (rdouble_no w.heap.size p u s num w3 M3.out.two.ref HNO.out).mono ?_
              rintro e w4 ⟨rfl, rfl⟩
              clear c1 c2 c3
              go_wp2_with fail
              refine (same_any w.heap.size g h p _ _ _ _ M3.out.two M3.out.size (by omega)).mono ?_
              rintro e w9 ⟨rfl, tw, bl⟩
              have P9 : Hid (PlayAt w w9 g h p (i + 1)) := Lib.hid ⟨_, _, _, by omega, ⟨tw, M3.out.below.trans bl, by exact TOS.out⟩⟩
              clear tw bl M3
              go_wp2
              go_roundg (n - (i + 1))
              case measure => omega
              case rel => exact ⟨i + 1, by omega, by omega, by go_num, P9.out⟩
      · obtain rfl : i = n := by omega
        clear hlt hm hi wi
        go_wp2_with fail
        refine (told_any _).mono ?_
        rintro e w2 ⟨rfl, b2⟩
        go_wp2
        go_ret
        exact ⟨rfl, P.out.below.trans (b2.mono P.out.below.size)⟩
end Go.Proofs.Ytgegjoeggbhaeaa
