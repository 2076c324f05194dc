import Derived.Test.YtpanjdncjdellaaT1
import Derived.Deep.RegionLaw
namespace Go.Proofs.Ytpanjdncjdellaa
open Go.RowKit

def St.put (s : St) (body : List Value) : St := { s with l := s.l ++ [body] }

theorem put_law {w1 w2 : World} {B g : Nat} {s : St} {lv lv2 v : Value} {ls body : List Value} {t : TypeId} {cs : Array Value} (hg1 : w1.heap[g]? = some (.cells (s.cells lv) 39 (0, 0))) (ho : Own w1 B 26 1 lv s.l.length ls)
    (hb : ∀ (i : Nat) (b : List Value), s.l[i]? = some b → ∃ v, ls[i]? = some v ∧ Own w1 B 5 1 v b.length b) (hv : Own w1 B 5 1 v body.length body)
    (hown2 : Own w2 B 26 1 lv2 (s.l.length + 1) (ls ++ [v])) (hgr : (w1.alloc (.cells cs t)).grownBy w2 lv.ownBlock) : w2.heap[g]? = some (.cells (s.cells lv) 39 (0, 0)) ∧ Hold w2 B lv2 (s.l ++ [body]) := by
  have hlt : g < w1.heap.size := (Array.getElem?_eq_some_iff.1 hg1).1
  have ho1 := ho.alloc (.cells cs t)
  have hl : ls.length = s.l.length := by have := ho.1; omega
  refine ⟨?_, ls ++ [v], by simpa using hown2, fun i b hi => ?_⟩
  · rw [hgr.block g (by simp; omega) ?_, heap_old _ _ _ hlt, hg1]
    intro e0
    rcases ho.2 with ⟨rfl, _⟩ | ⟨g1, off, cap, cur, rfl, _, hh1, _⟩
    · simp [Value.ownBlock] at e0
    · simp [Value.ownBlock] at e0
      subst e0
      rw [hg1] at hh1
      injection hh1 with hh1
      injection hh1 with _ hh1 _
      exact absurd hh1 (by decide)
  · rcases Nat.lt_or_ge i s.l.length with h | h
    · rw [List.getElem?_append_left h] at hi
      obtain ⟨u, hu, hou⟩ := hb i b hi
      exact ⟨u, by rw [List.getElem?_append_left (by omega)]; exact hu, (hou.alloc _).other ho1 (by decide) hgr⟩
    · rw [List.getElem?_append_right h] at hi
      have h0 : i = s.l.length := by
        have := (List.getElem?_eq_some_iff.1 hi).1
        simp at this; omega
      subst h0
      simp at hi
      subst hi
      exact ⟨v, by rw [List.getElem?_append_right (by omega), hl]; simp, (hv.alloc _).other ho1 (by decide) hgr⟩

set_option maxHeartbeats 2000000 in
set_option maxRecDepth 100000 in
theorem put_ok (B g : Nat) (s : St) (A : Option Addr) (n c : Nat) (body : List Value) (w : World) (h : Inv w B g s) (hr : Rd w w.heap.size 1 A n body) (hA : A = none → n = 0 ∧ c = 0) (h1 : ∀ u ∈ body, u.oneCell' = true)
    (hn : n ≤ 4100) (hl : s.l.length < 1000) : Calls Try.prog 7 #[.pointer (some ⟨g, 0, none⟩), .slice A n c] w fun e w' => e = .returned (.int .i64 0) ∧ Inv w' B g (s.put body) ∧ Below B w w' := by
  have hlt := h.lt
  have hge := h.ge
  obtain rfl : n = body.length := by have := hr.1; omega
  obtain ⟨Al, cl, hold, hc1, hc2, hblk, c0, c1, c2, c3, c4, c5, fz⟩ := h.open_
  obtain ⟨ls, hown, hbod⟩ := hold
  have hls : ls.length = s.l.length := by have := hown.1; omega
  have hn' : (body.length : Int) ≤ (4100 : Int) := by omega
  have hl' : ((s.l.length : Int) == 1000) = false := by rw [beq_eq_false_iff_ne]; omega
  have F0 := fz 0
  have HOLD := Lib.hid (And.intro hown hbod)
  have HB := Lib.hid hblk
  have HR := Lib.hid hr
  have H := Lib.hid h
  obtain ⟨i0, hi, hz0, hz1, hz2⟩ := info_parts slc_info
  clear h hr hblk fz hown hbod
  go_enter Try.func7, Try.ntmps7
  go_wp2_with fail
  go_region_law (first
    | (go_simp
       go_at_call 15
       refine (clone_any A body.length c body _ (by exact HR.out) hA h1 (by omega)).mono ?_
       rintro e w1 ⟨v, rfl, ho, hb⟩
       obtain ⟨A1, cc1, rfl, hq1, hq2, hq3⟩ := ho.form
       have hb0 : Below w.heap.size w w1 := ⟨hb.os, hb.tape, hb.output, hb.size, hb.block⟩
       have B1 := Lib.hid hb0
       have O1 : Hid (Own w1 w.heap.size 5 1 (.slice A1 body.length cc1) body.length body) := Lib.hid (by exact ho)
       have c0' : w1.cell? ⟨g, 0, none⟩ = some (.slice Al s.l.length cl) := (hb0.cell hlt).trans c0
       have hl1 : g < w1.heap.size := Nat.lt_of_lt_of_le hlt hb0.size
       clear ho hb hb0)
    | (refine step_append_rd _ rfl (.tmp 23) (.tmp 26) 37 rfl B 26 i0 _ 1 24 Try.underlying37 hi hz0 hz1 hz2 rfl (by decide) (.slice Al s.l.length cl) s.l.length ls rfl ((HOLD.out.1.below B1.out).alloc _) _ _ 1 1 [.slice A1 body.length cc1] rfl (Rd.newE rfl rfl rfl rfl) (fun h => by cases h) (by simp; rfl) (by simp only [maxLen]; omega) (by omega) (by simp; have := B1.out.size; omega) ?_
       intro v2 w2 hown2 hg2 hat2
       have PL := put_law (((B1.out.block g hlt).trans HB.out)) (HOLD.out.1.below B1.out) (fun i b hb => (HOLD.out.2 i b hb).imp fun v hv => ⟨hv.1, hv.2.below B1.out⟩) (O1.out.base_ (base' := B) (fun j hj => by have := (O1.out.block j hj).1; omega)) hown2 hg2
       obtain ⟨A2, c2v, rfl, r1, r2, r3⟩ := hown2.form
       have d0 : w2.cell? ⟨g, 0, none⟩ = some (.slice Al s.l.length cl) := cell_of_row w2 g 0 _ 39 (0, 0) PL.1
       have f0 : w2.frozen? ⟨g, 0, none⟩ = false := frozen_of_row w2 g 0 _ 39 PL.1
       have P2 := Lib.hid PL
       have BB : Hid (Below B w w2) := Lib.hid ((((B1.out.mono (by omega)).alloc (by have := B1.out.size; omega) _)).grown hg2 (by simp; have := B1.out.size; omega) (fun k hk => (HOLD.out.1.block k hk).1))
       clear PL hown2 hg2 hat2))
  all_goals
    go_wp2
    go_ret
    exact ⟨rfl, ⟨hge, ⟨_, heap_setCell_same _ g 0 _ 39 _ P2.out.1, P2.out.2.grown P2.out.1 (grown_set (grown_refl _ _) 0 _)⟩, by simp [St.put]; omega⟩, BB.out.setCell hge _⟩
end Go.Proofs.Ytpanjdncjdellaa
