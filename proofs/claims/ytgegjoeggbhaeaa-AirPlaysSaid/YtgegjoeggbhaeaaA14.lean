import Derived.Test.YtgegjoeggbhaeaaA13
namespace Go.Proofs.Ytgegjoeggbhaeaa
open Go.RowKit Go.Conc

theorem i64_id {n : Int} (h1 : -9223372036854775808 ≤ n) (h2 : n ≤ 9223372036854775807) : IntKind.i64.wrap n = n := by
  simp [IntKind.wrap, IntKind.bits, IntKind.signed]; omega

/-- The first m datagrams of AirFull. -/
def fulls (m : Nat) : List Row := (List.range m).map fun (i : Nat) => ⟨(i : Int) % 3, [(i : Int)], false⟩
theorem fulls_len (m : Nat) : (fulls m).length = m := by simp [fulls]
theorem fulls_succ (m : Nat) : fulls (m + 1) = fulls m ++ [⟨(m : Int) % 3, [(m : Int)], false⟩] := by simp [fulls, List.range_succ]
theorem fulls_get {m k : Nat} (h : k < m) : (fulls m)[k]? = some ⟨(k : Int) % 3, [(k : Int)], false⟩ := by simp [fulls, h]
theorem fulls_fly : ∀ m, flyOf (fulls m) = List.range m
  | 0 => rfl
  | m + 1 => by rw [fulls_succ, flyOf_push _ _ rfl, fulls_fly m, fulls_len, List.range_succ]
theorem fulls_flen (m : Nat) : (flyOf (fulls m)).length = m := by rw [fulls_fly, List.length_range]
theorem lost_flen {m k : Nat} (h : k < m) : (flyOf (loseAt (fulls m) k)).length = m - 1 := by
  rw [flyOf_lose, fulls_fly, ← List.Nodup.erase_eq_filter List.nodup_range, List.length_erase_of_mem (List.mem_range.2 h), List.length_range]

set_option maxHeartbeats 4000000 in
set_option maxRecDepth 100000 in
/-- AirFull's walk. -/
theorem full_row (a0 : Int) (w : World) (_w0 : (Lit.int .i64 a0).wf = true) : Calls Try.prog 4 #[.int .i64 a0] w fun e w' => e = .returned (.bool true) ∧ Below w.heap.size w w' := by
  obtain ⟨r, hr, hrl⟩ := rem_nat a0 200 (by omega)
  have u0 := u64_nn a0
  have i1 : IntKind.i64.wrap (r : Int) = (r : Int) := i64_id (by omega) (by omega)
  go_enter Try.func4, Try.ntmps4
  go_wp2_with fail
  refine (new_air w).mono ?_
  rintro e w1 ⟨g, h, rfl, a1, b1⟩
  have Y1 := Lib.hid (Way.mk a1 b1)
  clear a1 b1
  go_wp2_with fail
  go_loopg [4] 200 (fun m x wr => ∃ j : Nat, j ≤ 200 ∧ 200 - j ≤ m ∧ x = .int .i64 j ∧ Hid (∃ v, Way w wr g h v (fulls j)))
  case atStart => exact ⟨0, by omega, by omega, rfl, _, Y1.out⟩
  case round =>
    obtain ⟨j, hj, hm, rfl, HF⟩ := hrel
    obtain ⟨v, hw⟩ := HF.out
    have Y := Lib.hid hw
    clear HF hw Y1
    have wj : IntKind.i64.wrap ((j : Int) + 1) = (j : Int) + 1 := i64_id (by omega) (by omega)
    by_cases hlt : j < 200
    · have hlt' : (j : Int) < 200 := by omega
      clear hr u0 i1
      go_wp2_with fail
      have Y2 := Lib.hid (Y.out.alloc (.cells #[.int .u8 (j : Int)] 5))
      refine (post_ok w.heap.size g h v (fulls j) ((j : Int) % 3) _ 1 1 [(j : Int)] _ Y2.out.air Y2.out.size (by omega) (by omega) (rd_marked wr #[.int .u8 (j : Int)] 5 (0, 0) 1 rfl) (fun h => by cases h) (by omega) (by rw [fulls_len]; omega) (by rw [fulls_flen]; omega)).mono ?_
      rw [fulls_len]
      rintro e w2 ⟨v2, rfl, a2, t2⟩
      have Y3 : Hid (Way w w2 g h v2 (fulls (j + 1))) := Lib.hid (by rw [fulls_succ]; exact Y2.out.turn a2 t2)
      clear a2 t2 Y Y2
      go_wp2
      go_roundg (200 - (j + 1))
      case measure => omega
      case rel => exact ⟨j + 1, by omega, by omega, by go_num, v2, Y3.out⟩
    · obtain rfl : j = 200 := by omega
      clear wj hlt hj hm
      have hrn : r < 200 := by omega
      go_wp2_with fail
      refine (post_full w.heap.size g h v (fulls 200) 0 none 0 0 wr Y.out.air (by omega) (by omega) (by omega) (fulls_flen 200)).mono ?_
      rintro e w1 ⟨rfl, rfl⟩
      go_wp2_with fail
      refine (double_full w.heap.size g h v (fulls 200) 0 _ w1 Y.out.air (fulls_get (by omega)) rfl (by decide) (fulls_flen 200)).mono ?_
      rintro e w2 ⟨rfl, a2, t2⟩
      have Y2 : Hid (Way w w2 g h v (fulls 200)) := Lib.hid (Y.out.turn a2 t2)
      clear a2 t2 Y
      go_wp2_with fail
      refine (come_yes w.heap.size g h v (fulls 200) r _ w2 Y2.out.air Y2.out.size (fulls_get hrn) rfl).mono ?_
      rintro e w3 ⟨bv, rfl, o3, a3, t3⟩
      obtain ⟨Ab, cb, rfl, _, _, _⟩ := o3.form
      have Y3 : Hid (Way w w3 g h v (loseAt (fulls 200) r)) := Lib.hid (Y2.out.turn a3 t3)
      have O3 : Hid (Own w3 w2.heap.size 5 1 (.slice Ab 1 cb) 1 (byt [(r : Int)])) := Lib.hid o3
      clear a3 t3 Y2 o3
      have hll : (loseAt (fulls 200) r).length = 200 := by rw [lose_len, fulls_len]
      go_wp2_with fail
      refine (post_ok w.heap.size g h v (loseAt (fulls 200) r) 0 none 0 0 [] w3 Y3.out.air Y3.out.size (by omega) (by omega) (Rd.nil_ _ _ _ _) (fun _ => ⟨rfl, rfl⟩) (by omega) (by omega) (by rw [lost_flen hrn]; omega)).mono ?_
      rw [hll]
      rintro e w4 ⟨v4, rfl, a4, t4⟩
      have Y4 : Hid (Way w w4 g h v4 (loseAt (fulls 200) r ++ [⟨0, [], false⟩])) := Lib.hid (Y3.out.turn a4 t4)
      have O4 := Lib.hid (Y3.out.air.other t4 O3.out (by decide) (by decide))
      have hlast : (flyOf (loseAt (fulls 200) r ++ [⟨0, [], false⟩])).length = 200 := by rw [flyOf_push _ _ rfl, List.length_append, lost_flen hrn]; rfl
      clear a4 t4 Y3 O3 hll
      have HL := Lib.hid hlast
      clear hlast
      go_wp2_with fail
      refine (told_any _).mono ?_
      rintro e w5 ⟨rfl, b5⟩
      have Y5 := Lib.hid (Y4.out.on b5)
      have O5 := O4.out.below b5
      obtain ⟨b, off, rfl, hb, hc⟩ := O5.rd.2 (by omega)
      have c0 : w5.cell? ⟨b, off, none⟩ = some (.int .u8 (r : Int)) := hc 0 _ rfl
      clear b5 Y4 O4 O5 hc
      go_wp2_with fail
      refine (flying_any w.heap.size g h v4 _ w5 Y5.out.air).mono ?_
      rw [HL.out]
      rintro e w6 ⟨fv, rfl, o6, a6, t6⟩
      obtain ⟨Af, cf, rfl, _, _, _⟩ := o6.form
      have Y6 := Lib.hid (Y5.out.turn a6 t6)
      clear o6 a6 t6 Y5
      go_wp2
      go_ret
      exact ⟨rfl, Y6.out.below⟩
end Go.Proofs.Ytgegjoeggbhaeaa
