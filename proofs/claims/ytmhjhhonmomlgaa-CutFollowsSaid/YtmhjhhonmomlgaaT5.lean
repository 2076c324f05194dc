import Derived.Test.YtmhjhhonmomlgaaT3
import Derived.Deep.DeepMust
namespace Go.Proofs.Ytmhjhhonmomlgaa
open Go.RowKit

/-- 's[:h:m]'. -/
theorem run_slice_hm {P : Program} (w : World) (t : TypeId) (a : Option Addr) (len cap : Nat) (ht : P.underlying t = some (.slice (P.elem t))) (i : TypeInfo) (hi : P.info? (P.elem t) = some i) (kh km : IntKind) (h m : Int) (h0 : 0 ≤ h) (h1 : h ≤ m) (h2 : m ≤ cap) :
    (Instr.slice t (.slice a len cap) none (some (.int kh h)) (some (.int km m))).run P w = .ok (.slice a h.toNat m.toNat) w := by
  have em : (m.toNat : Int) = m := Int.toNat_of_nonneg (by omega)
  have ez : ∀ b : Addr, b.add 0 = b := fun b => by simp [Addr.add]
  have e0 : Option.map (fun x : Addr => x.add 0) a = a := by cases a <;> simp [ez]
  simp [Instr.slice, run_underlying ht, Instr.sliceBounds, run_sliceBound, *, sizeOf, typeInfo, (by omega : 0 ≤ m), em, e0]

theorem Own.pre {w : World} {base e k n g off cap m c : Nat} {xs : List Value} (h : Own w base e k (.slice (some ⟨g, off, none⟩) n cap) n xs) (hm : m ≤ n) (hmc : m ≤ c) (hc : c ≤ cap) :
    Own w base e k (.slice (some ⟨g, off, none⟩) m c) m (xs.take (m * k)) := by
  have := h.cut (i := 0) (m := m) (c := c) (by omega) hmc (by omega)
  simpa using this

theorem int_info : (Try.prog.info? 3).map (fun i => (i.zero, i.size, i.bytes)) = some (some (.int .i64 0), 1, 8) := by kernel_rfl

/-- A slice of ints that came in: what Rows reads of it. -/
def RdI (w : World) (B : Nat) (A : Option Addr) (n : Nat) (zs : List Int) : Prop := zs.length = n ∧ Rd w B 1 A n (zs.map (Value.int .i64))

theorem RdI.at_ {w : World} {B n : Nat} {A : Option Addr} {zs : List Int} (h : RdI w B A n zs) (k : Nat) (hk : k < n) : ∃ b off x, A = some ⟨b, off, none⟩ ∧ b < B ∧ zs[k]? = some x ∧ w.cell? ⟨b, off + k, none⟩ = some (.int .i64 x) := by
  obtain ⟨hl, hr⟩ := h
  obtain ⟨b, off, hA, hb, hc⟩ := hr.2 (by omega)
  have hx : zs[k]? = some (zs[k]'(by omega)) := List.getElem?_eq_getElem (by omega)
  exact ⟨b, off, _, hA, hb, hx, hc k _ (by rw [List.getElem?_map, hx]; rfl)⟩

/-- What Rows carries from round to round. -/
structure RowsAt (B : Nat) (k : Nat) (es : List Ent) (ids : List Int) (out there : Value) (wr : World) : Prop where
  out : Own wr B 29 8 out es.length (es.flatMap Ent.enc)
  there : Own wr B 3 1 there ids.length (ids.map (Value.int .i64))
  lo : es.length ≤ k
  li : ids.length ≤ k
  views : ∀ e ∈ es, 0 ≤ e.view ∧ e.view ≤ k

/-- What Rows hands back. -/
def GivesR (w : World) (e : Ending) (w' : World) : Prop :=
  ∃ (es : List Ent) (A : Option Addr) (c : Nat), e = .returned (.slice A es.length c) ∧ es.length ≤ 40 ∧ (∀ x ∈ es, 0 ≤ x.view ∧ x.view ≤ 40) ∧ GotE w' es.length es A c ∧ Below w.heap.size w w'

theorem ent_one (e : Ent) : ∀ u ∈ e.enc, u.oneCell' = true := by
  intro u hu
  simp [Ent.enc] at hu
  rcases hu with rfl | rfl | rfl | rfl | rfl | rfl | rfl | rfl <;> rfl

/-- Behind 'out = append(out, Entry{..})'. -/
theorem rows_out {B k : Nat} {es : List Ent} {ids : List Int} {out there : Value} {wr w1 : World} {o : Obj} {v1 : Value} (E : Ent) (h : RowsAt B k es ids out there wr) (hB : B ≤ wr.heap.size)
    (h1 : Own w1 B 29 8 v1 (es.length + 1) (es.flatMap Ent.enc ++ E.enc)) (hg : (wr.alloc o).grownBy w1 out.ownBlock) (hE : 0 ≤ E.view ∧ E.view ≤ k + 1) :
    ∃ A c, v1 = .slice A (es.length + 1) c ∧ RowsAt B (k + 1) (es ++ [E]) ids (.slice A (es ++ [E]).length c) there w1 ∧ Below B wr w1 := by
  obtain ⟨A, c, rfl, _, _, _⟩ := h1.form
  refine ⟨A, c, rfl, ⟨?_, ?_, ?_, ?_, ?_⟩, ?_⟩
  · rw [List.flatMap_append, List.length_append]
    simpa using h1
  · exact (h.there.alloc o).other (h.out.alloc o) (by decide) hg
  · rw [List.length_append]; have := h.lo; simp; omega
  · have := h.li; omega
  · intro e he
    rw [List.mem_append] at he
    rcases he with he | he
    · have := h.views e he; omega
    · simp at he; subst he; exact hE
  · exact ((Below.refl _ _).alloc hB o).grown hg (by simp; omega) (fun g hg' => (h.out.block g hg').1)

theorem RowsAt.alloc {B k : Nat} {es : List Ent} {ids : List Int} {out there : Value} {wr : World} (h : RowsAt B k es ids out there wr) (o : Obj) : RowsAt B k es ids out there (wr.alloc o) :=
  ⟨h.out.alloc o, h.there.alloc o, h.lo, h.li, h.views⟩
theorem RowsAt.drew {B k : Nat} {es : List Ent} {ids : List Int} {out there : Value} {wr : World} (h : RowsAt B k es ids out there wr) : RowsAt B k es ids out there wr.drew :=
  ⟨h.out.drew, h.there.drew, h.lo, h.li, h.views⟩
/-- The ids that are there have turned. -/
theorem rows_there {B k : Nat} {es : List Ent} {ids ids' : List Int} {out there : Value} {wr w0 w1 : World} {v1 dst : Value} (h : RowsAt B k es ids out there w0) (hB : B ≤ w0.heap.size)
    (hdst : ∀ g, dst.ownBlock = some g → there.ownBlock = some g) (h1 : Own w1 B 3 1 v1 ids'.length (ids'.map (Value.int .i64))) (hg : w0.grownBy w1 dst.ownBlock) (hl : ids'.length ≤ k) (hb : Below B wr w0) :
    ∃ A c, v1 = .slice A ids'.length c ∧ RowsAt B k es ids' out (.slice A ids'.length c) w1 ∧ Below B wr w1 := by
  obtain ⟨A, c, rfl, _, _, _⟩ := h1.form
  refine ⟨A, c, rfl, ⟨?_, h1, h.lo, hl, h.views⟩, hb.trans ((Below.refl _ _).grown hg hB fun g hg' => (h.there.block g (hdst g hg')).1)⟩
  refine h.out.keep fun g hgo => hg.block g (h.out.block g hgo).2 fun e => ?_
  have := hdst g e.symm
  exact Own.apart h.there h.out (by decide) g hgo this.symm

set_option maxHeartbeats 4000000 in
set_option maxRecDepth 100000 in
theorem rows_any (A : Option Addr) (n c : Nat) (zs : List Int) (w : World) (h : RdI w w.heap.size A n zs) (hm : n ≤ 9223372036854775807) :
    Calls Try.prog 7 #[.slice A n c] w (GivesR w) := by
  obtain ⟨i0, hi, hz0, hz1, hz2⟩ := info_parts ent_info
  obtain ⟨j0, ji, jz0, jz1, jz2⟩ := info_parts int_info
  have HR := Lib.hid h
  clear h
  go_enter Try.func7, Try.ntmps7
  go_wp2
  go_loopg [3, 4, 5, 6, 7, 8, 9, 10, 11] 40 (fun g s3 s4 s5 s6 s7 s8 _ _ _ wr => ∃ (k vi id : Nat) (pos : Int) (es : List Ent) (ids : List Int) (A1 A2 : Option Addr) (ca cb : Nat), k ≤ 40 ∧ k ≤ n ∧ 40 - k ≤ g ∧ vi ≤ k ∧ id ≤ k ∧ 0 ≤ pos ∧ pos ≤ 100 * (k : Int) ∧
      s3 = .slice A1 es.length ca ∧ s4 = .slice A2 ids.length cb ∧ s5 = .int .i64 vi ∧ s6 = .int .i64 id ∧ s7 = .int .i64 pos ∧ s8 = .int .i64 k ∧ RowsAt w.heap.size k es ids (.slice A1 es.length ca) (.slice A2 ids.length cb) wr ∧ Below w.heap.size w wr)
  case atStart => exact ⟨0, 0, 0, 0, [], [], none, none, 0, 0, by omega, by omega, by omega, by omega, by omega, by omega, by omega, rfl, rfl, rfl, rfl, rfl, rfl, ⟨Own.nil_ _ _ _ _, Own.nil_ _ _ _ _, by simp, by simp, by simp⟩, Below.refl _ _⟩
  case round =>
    obtain ⟨k, vi, id, pos, es, ids, A1, A2, ca, cb, hk, hkn, hg, hvi, hid, hp0, hp1, rfl, rfl, rfl, rfl, rfl, rfl, HRA, HB⟩ := hrel
    have hlo := HRA.lo
    have hli := HRA.li
    by_cases hl : k < n ∧ k < 40
    · obtain ⟨hl1, hl2⟩ := hl
      obtain ⟨b, off, x, rfl, hb, hx, hcx⟩ := HR.out.at_ k hl1
      have hc := (HB.cell (p := ⟨b, off + k, none⟩) hb).trans hcx
      have HX := Lib.hid hx
      clear hcx hx
      have hbw : b < wr.heap.size := Nat.lt_of_lt_of_le hb HB.size
      have hu := u64_nn x
      have hq := u64_nn ((IntKind.u64.wrap x).tdiv 8)
      have hlt : (k : Int) < (n : Int) := by omega
      by_cases h7 : IntKind.u64.wrap x % 8 = 7
      · have e7 : (IntKind.u64.wrap x % 8 == 7) = true := by simp [h7]
        clear h7
        go_wp2_with (at_builtin; refine wpList_append_rd _ rfl (.tmp 61) (.tmp 64) 23 rfl w.heap.size 29 i0 _ 8 72 Try.underlying23 hi hz0 hz1 hz2 rfl (by decide) (.slice A1 es.length ca) es.length (es.flatMap Ent.enc) rfl (HRA.out.alloc _) (wr.heap.size + 1) (some ⟨wr.heap.size, 0, none⟩) 1 1 (Ent.enc ⟨3, vi + 1, 0, 0, 0, 0, 0, ⟨#[]⟩⟩) rfl (Rd.new wr _ 29 8 1 rfl) (fun h => by cases h) (ent_one _) (by simp only [maxLen]; omega) (by omega) (by have := HB.size; simp; omega) ?_; intro v1 w1 hown1 hg1 hat1)
        obtain ⟨A', c', rfl, HRA', hb'⟩ := rows_out ⟨3, vi + 1, 0, 0, 0, 0, 0, ⟨#[]⟩⟩ HRA HB.size hown1 hg1 (by simp; omega)
        clear hown1 hg1 hat1 HRA
        go_wp2
        go_roundg (40 - (k + 1))
        case measure => omega
        case rel => exact ⟨k + 1, vi + 1, id, pos, _, ids, A', A2, c', cb, by omega, by omega, by omega, by omega, by omega, by omega, by omega, by simp, rfl, by go_num, rfl, rfl, by go_num, HRA', HB.trans hb'⟩
      · have n7 : (IntKind.u64.wrap x % 8 == 7) = false := by simp [h7]
        clear h7
        by_cases h6 : IntKind.u64.wrap x % 8 = 6
        · have e6 : (IntKind.u64.wrap x % 8 == 6) = true := by simp [h6]
          clear h6
          rcases (show IntKind.u64.wrap ((IntKind.u64.wrap x).tdiv 8) % 3 = 0 ∨ IntKind.u64.wrap ((IntKind.u64.wrap x).tdiv 8) % 3 = 1 ∨ IntKind.u64.wrap ((IntKind.u64.wrap x).tdiv 8) % 3 = 2 by omega) with h3 | h3 | h3
          all_goals
            go_wp2_with (at_builtin; go_must (refine wpList_append_rd _ rfl (.tmp 70) (.tmp 80) 23 rfl w.heap.size 29 i0 _ 8 72 Try.underlying23 hi hz0 hz1 hz2 rfl (by decide) (.slice A1 es.length ca) es.length (es.flatMap Ent.enc) rfl ((HRA.out.alloc _).alloc _) (wr.heap.size + 1 + 1) (some ⟨wr.heap.size + 1, 0, none⟩) 1 1 (Ent.enc ⟨4, vi, 0, 0, 0, 0, 0, _⟩) rfl (Rd.newE (by simp) rfl rfl rfl) (fun h => by cases h) (ent_one _) (by simp only [maxLen]; omega) (by omega) (by have := HB.size; simp; omega) ?_); intro v1 w1 hown1 hg1 hat1)
            obtain ⟨A', c', rfl, HRA', hb'⟩ := rows_out ⟨4, vi, 0, 0, 0, 0, 0, _⟩ (HRA.alloc _) (by have := HB.size; simp; omega) hown1 hg1 (by simp; omega)
            clear hown1 hg1 hat1 HRA
            go_wp2
            go_roundg (40 - (k + 1))
            case measure => omega
            case rel => exact ⟨k + 1, vi, id, pos, _, ids, A', A2, c', cb, by omega, by omega, by omega, by omega, by omega, by omega, by omega, by simp, rfl, rfl, rfl, rfl, by go_num, HRA', HB.trans (((Below.refl _ _).alloc HB.size _).trans hb')⟩
        · have n6 : (IntKind.u64.wrap x % 8 == 6) = false := by simp [h6]
          clear h6
          by_cases hd : 3 < IntKind.u64.wrap x % 8 ∧ 0 < ids.length
          · obtain ⟨hd1, hd2⟩ := hd
            obtain ⟨j, hj⟩ := Int.eq_ofNat_of_zero_le (Int.emod_nonneg (IntKind.u64.wrap ((IntKind.u64.wrap x).tdiv 8)) (show (ids.length : Int) ≠ 0 by omega))
            have hjl : j < ids.length := by have := Int.emod_lt_of_pos (IntKind.u64.wrap ((IntKind.u64.wrap x).tdiv 8)) (show 0 < (ids.length : Int) by omega); omega
            have hjl' : (j : Int) < (ids.length : Int) := by omega
            have hcb : ids.length ≤ cb ∧ cb ≤ 9223372036854775807 := by
              obtain ⟨A3, c3, e3, q1, q2, _⟩ := HRA.there.form
              injection e3 with _ _ e4
              subst e4
              exact ⟨q1, by simpa [maxLen] using q2⟩
            obtain ⟨hcb1, hcb2⟩ := hcb
            obtain ⟨b2, off2, rfl, hb2, hc2⟩ := HRA.there.rd.2 hd2
            have hci : wr.cell? ⟨b2, off2 + j, none⟩ = some (.int .i64 (ids[j])) := hc2 j _ (by rw [List.getElem?_map, List.getElem?_eq_getElem hjl]; rfl)
            clear hc2
            generalize hz : ids[j] = z at hci
            clear hz
            go_wp2_with (at_builtin; go_must (refine wpList_append_rd _ rfl (.tmp 98) (.tmp 105) 23 rfl w.heap.size 29 i0 _ 8 72 Try.underlying23 hi hz0 hz1 hz2 rfl (by decide) (.slice A1 es.length ca) es.length (es.flatMap Ent.enc) rfl (HRA.out.alloc _) (wr.heap.size + 1) (some ⟨wr.heap.size, 0, none⟩) 1 1 (Ent.enc ⟨2, vi, z, 0, 0, 0, 0, ⟨#[]⟩⟩) rfl (Rd.newE rfl rfl rfl rfl) (fun h => by cases h) (ent_one _) (by simp only [maxLen]; omega) (by omega) (by have := HB.size; simp; omega) ?_); intro v1 w1 hown1 hg1 hat1)
            obtain ⟨A', c', rfl, HRA', hb'⟩ := rows_out ⟨2, vi, z, 0, 0, 0, 0, ⟨#[]⟩⟩ HRA HB.size hown1 hg1 (by simp; omega)
            clear hown1 hg1 hat1 HRA hci
            have hsl := fun W => run_slice_hm (P := Try.prog) W 22 (some ⟨b2, off2, none⟩) ids.length cb Try.underlying22 j0 ji .i64 .i64 j j (by omega) (by omega) (by omega)
            have hcj : (cb = j + 1) = True ∨ (cb = j + 1) = False := by by_cases h : cb = j + 1 <;> simp [h]
            have hown0 := HRA'.there
            have hrd0 := HRA'.there.rd
            have hw1 : IntKind.i64.wrap ((j : Int) + 1) = (j : Int) + 1 := IntWalk.i64_in _ (by omega)
            have hw2 : 0 ≤ (j : Int) + 1 := by omega
            have hw4 : (j : Int) + 1 ≤ (ids.length : Int) := by omega
            have hw3 : ((j : Int) + 1).toNat = j + 1 := by omega
            rcases hcj with hcj | hcj
            · go_wp2_with fail
              go_still_tail 8, (by kernel_rfl)
              change wpList _ _ _ _ _ w1.drew
              go_wp2_with (at_builtin; go_must (refine wpList_append_rd _ rfl (.tmp 110) (.tmp 114) 22 rfl w.heap.size 3 j0 _ 1 8 Try.underlying22 ji jz0 jz1 jz2 rfl (by decide) (.slice (some ⟨b2, off2, none⟩) j j) j (((ids.take j).map (Value.int .i64))) rfl (by have := hown0.drew.pre (m := j) (c := j) (by omega) (Nat.le_refl _) (by omega); rwa [Nat.mul_one, ← List.map_take] at this) w1.heap.size _ _ _ ((ids.drop (j + 1)).map (Value.int .i64)) rfl ?hrd1 (fun h => by cases h) (by intro u hu; obtain ⟨q, _, rfl⟩ := List.mem_map.1 hu; rfl) (by simp only [maxLen]; omega) (by omega) (by have := HB.size; have := hb'.size; simp; omega) ?hk1))
              case hrd1 =>
                have e1 : cb = j + 1 := of_eq_true hcj
                rw [show ids.length - (j + 1) = 0 by omega, List.drop_eq_nil_of_le (by omega)]
                exact Rd.nil_ _ _ _ _
              case hk1 =>
                intro v2 w2 hown2 hg2 hat2
                have hd2' : (ids.take j ++ ids.drop (j + 1)).length = j + (ids.length - (j + 1)) := by rw [List.length_append, List.length_take, List.length_drop]; omega
                have hfin : ∃ A c, v2 = .slice A (ids.take j ++ ids.drop (j + 1)).length c ∧ RowsAt w.heap.size (k + 1) _ (ids.take j ++ ids.drop (j + 1)) _ (.slice A (ids.take j ++ ids.drop (j + 1)).length c) w2 ∧ Below w.heap.size w1 w2 :=
                  rows_there (wr := w1) HRA'.drew (Nat.le_trans HB.size hb'.size) (dst := .slice (some ⟨b2, off2, none⟩) j j) (fun g hg' => hg') (by rw [hd2', List.map_append, List.map_take, List.map_drop]; exact hown2) hg2 (by rw [hd2']; omega) (Below.drew (Below.refl _ _))
                obtain ⟨A6, c6, rfl, HR6, hb6⟩ := hfin
                clear hown2 hg2 hat2 HRA' hown0 hrd0 hsl hw1 hw2 hw3 hw4 hcj hd2'
                go_wp2
                go_roundg (40 - (k + 1))
                case measure => omega
                case rel => exact ⟨k + 1, vi, id, pos, _, _, A', A6, c', c6, by omega, by omega, by omega, by omega, by omega, by omega, by omega, by simp, rfl, rfl, rfl, rfl, by go_num, HR6, HB.trans (hb'.trans hb6)⟩
            · go_wp2_with fail
              go_still_tail 8, (by kernel_rfl)
              change wpList _ _ _ _ _ w1.drew
              go_wp2_with (at_builtin; go_must (refine wpList_append_rd _ rfl (.tmp 110) (.tmp 114) 22 rfl w.heap.size 3 j0 _ 1 8 Try.underlying22 ji jz0 jz1 jz2 rfl (by decide) (.slice (some ⟨b2, off2, none⟩) j j) j (((ids.take j).map (Value.int .i64))) rfl (by have := hown0.drew.pre (m := j) (c := j) (by omega) (Nat.le_refl _) (by omega); rwa [Nat.mul_one, ← List.map_take] at this) w1.heap.size _ _ _ ((ids.drop (j + 1)).map (Value.int .i64)) rfl ?hrd2 (fun h => by cases h) (by intro u hu; obtain ⟨q, _, rfl⟩ := List.mem_map.1 hu; rfl) (by simp only [maxLen]; omega) (by omega) (by have := HB.size; have := hb'.size; simp; omega) ?hk2))
              case hrd2 =>
                have hcut := hrd0.cut (i := j + 1) (m := ids.length - (j + 1)) (by omega) (A' := some ⟨b2, off2 + (j + 1), none⟩) (fun _ b' o' e => by injection e with e; injection e with e1 e2; subst e1 e2; simp)
                rw [Nat.mul_one, Nat.mul_one, List.take_of_length_le (by rw [List.length_drop, List.length_map]; omega), ← List.map_drop] at hcut
                exact hcut
              case hk2 =>
                intro v2 w2 hown2 hg2 hat2
                have hd2' : (ids.take j ++ ids.drop (j + 1)).length = j + (ids.length - (j + 1)) := by rw [List.length_append, List.length_take, List.length_drop]; omega
                have hfin : ∃ A c, v2 = .slice A (ids.take j ++ ids.drop (j + 1)).length c ∧ RowsAt w.heap.size (k + 1) _ (ids.take j ++ ids.drop (j + 1)) _ (.slice A (ids.take j ++ ids.drop (j + 1)).length c) w2 ∧ Below w.heap.size w1 w2 :=
                  rows_there (wr := w1) HRA'.drew (Nat.le_trans HB.size hb'.size) (dst := .slice (some ⟨b2, off2, none⟩) j j) (fun g hg' => hg') (by rw [hd2', List.map_append, List.map_take, List.map_drop]; exact hown2) hg2 (by rw [hd2']; omega) (Below.drew (Below.refl _ _))
                obtain ⟨A6, c6, rfl, HR6, hb6⟩ := hfin
                clear hown2 hg2 hat2 HRA' hown0 hrd0 hsl hw1 hw2 hw3 hw4 hcj hd2'
                go_wp2
                go_roundg (40 - (k + 1))
                case measure => omega
                case rel => exact ⟨k + 1, vi, id, pos, _, _, A', A6, c', c6, by omega, by omega, by omega, by omega, by omega, by omega, by omega, by simp, rfl, rfl, rfl, rfl, by go_num, HR6, HB.trans (hb'.trans hb6)⟩
          · have hz0 : 3 < IntKind.u64.wrap x % 8 → ids.length = 0 := fun ha => by
              by_cases hb0 : 0 < ids.length
              · exact absurd ⟨ha, hb0⟩ hd
              · omega
            clear hd
            have hways : (3 < IntKind.u64.wrap x % 8 ∧ decide (0 < ids.length) = false) ∨ IntKind.u64.wrap x % 8 ≤ 3 := by
              by_cases ha : 3 < IntKind.u64.wrap x % 8
              · exact .inl ⟨ha, by simp [hz0 ha]⟩
              · exact .inr (by omega)
            clear hz0
            rcases hways with ⟨ha, hnl⟩ | ha
            all_goals
              go_wp2_with (first
                | (at_builtin
                   refine wpList_append_rd _ rfl (.tmp 36) (.tmp 48) 23 rfl w.heap.size 29 i0 _ 8 72 Try.underlying23 hi hz0 hz1 hz2 rfl (by decide) (.slice A1 es.length ca) es.length (es.flatMap Ent.enc) rfl (HRA.out.alloc _) (wr.heap.size + 1) (some ⟨wr.heap.size, 0, none⟩) 1 1 (Ent.enc ⟨1, vi, id + 1, _, pos, _, _, ⟨#[]⟩⟩) rfl (Rd.newE rfl rfl rfl rfl) (fun h => by cases h) (ent_one _) (by simp only [maxLen]; omega) (by omega) (by have := HB.size; simp; omega) ?_
                   intro v1 w1 hown1 hg1 hat1
                   obtain ⟨A', c', rfl, HRA', hb'⟩ := rows_out ⟨1, vi, id + 1, _, pos, _, _, ⟨#[]⟩⟩ HRA HB.size hown1 hg1 (by simp; omega)
                   clear hown1 hg1 hat1 HRA
                   have hown0 := HRA'.there)
                | (at_builtin
                   refine wpList_append_rd _ rfl (.tmp 50) (.tmp 52) 22 rfl w.heap.size 3 j0 _ 1 8 Try.underlying22 ji jz0 jz1 jz2 rfl (by decide) (.slice A2 ids.length cb) ids.length (ids.map (Value.int .i64)) rfl (hown0.alloc _) (w1.heap.size + 1) (some ⟨w1.heap.size, 0, none⟩) 1 1 [.int .i64 (id + 1)] rfl (Rd.newE rfl rfl rfl rfl) (fun h => by cases h) (by intro u hu; simp at hu; subst hu; rfl) (by simp only [maxLen]; omega) (by omega) (by have := HB.size; have := hb'.size; simp; omega) ?_
                   intro v2 w2 hown2 hg2 hat2))
              have hl2' : (ids ++ [(id : Int) + 1]).length = ids.length + 1 := by simp
              have hfin : ∃ A c, v2 = .slice A (ids ++ [(id : Int) + 1]).length c ∧ RowsAt w.heap.size (k + 1) _ (ids ++ [(id : Int) + 1]) _ (.slice A (ids ++ [(id : Int) + 1]).length c) w2 ∧ Below w.heap.size w1 w2 :=
                rows_there (wr := w1) (HRA'.alloc _) (by have := HB.size; have := hb'.size; simp; omega) (dst := .slice A2 ids.length cb) (fun g hg' => hg') (by rw [hl2', List.map_append]; exact hown2) hg2 (by rw [hl2']; omega) ((Below.refl _ _).alloc (Nat.le_trans HB.size hb'.size) _)
              obtain ⟨A6, c6, rfl, HR6, hb6⟩ := hfin
              clear hown2 hg2 hat2 HRA' hown0 hl2'
              go_wp2
              go_roundg (40 - (k + 1))
              case measure => omega
              case rel => exact ⟨k + 1, vi, id + 1, _, _, _, A', A6, c', c6, by omega, by omega, by omega, by omega, by omega, by omega, by omega, by simp, rfl, rfl, by go_num, rfl, by go_num, HR6, HB.trans (hb'.trans hb6)⟩
    · have hge : (decide (k < n) = false ∧ n ≤ k) ∨ (k < n ∧ decide ((k : Int) < 40) = false ∧ (40 : Int) ≤ (k : Int)) := by
        by_cases h0 : k < n
        · exact .inr ⟨h0, by simp; omega, by omega⟩
        · exact .inl ⟨by simp; omega, by omega⟩
      rcases hge with ⟨hge, hge2⟩ | ⟨hge0, hge, hge2⟩
      all_goals
        go_wp2
        go_ret
        exact ⟨es, A1, ca, rfl, by omega, fun e he => by have := HRA.views e he; omega, ⟨RdE.of_own rfl HRA.out, (by obtain ⟨A3, c3, e3, q1, q2, q3⟩ := HRA.out.form; injection e3 with _ _ e4; subst e4; exact q1), (by obtain ⟨A3, c3, e3, q1, q2, q3⟩ := HRA.out.form; injection e3 with _ _ e4; subst e4; exact q2), (by obtain ⟨A3, c3, e3, q1, q2, q3⟩ := HRA.out.form; injection e3 with e5 _ e4; subst e4 e5; exact q3)⟩, HB⟩
end Go.Proofs.Ytmhjhhonmomlgaa
