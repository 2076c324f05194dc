import Derived.Test.YtmhjhhonmomlgaaT3
import Derived.Deep.RegionHeld3
namespace Go.Proofs.Ytmhjhhonmomlgaa
open Go.RowKit

/-- A block that holds the entries es, and nothing else. -/
theorem RdE.of_block {w : World} {g : Nat} {cs : Array Value} (es : List Ent) (hh : w.heap[g]? = some (.cells cs 29 (0, 0))) (hc : cs = (es.flatMap Ent.enc).toArray) : RdE w w.heap.size (some ⟨g, 0, none⟩) es.length es := by
  refine ⟨rfl, flat_len Ent.enc 8 Ent.enc_len es, fun _ => ⟨g, 0, rfl, (Array.getElem?_eq_some_iff.1 hh).1, fun j u hu => ?_⟩⟩
  rw [cell_of_row w g (0 + j) cs 29 (0, 0) hh, hc]
  simpa using hu

def ea : Ent := ⟨3, 1, 0, 0, 0, 0, 0, ByteArray.empty⟩
def eb : Ent := ⟨3, 2, 0, 0, 0, 0, 0, ByteArray.empty⟩

theorem sameE_refl (e : Ent) : sameE e e = true := by simp [sameE]
theorem sab : sameE ea eb = false := by simp [sameE, ea, eb]
theorem meet_ab : meet [ea, ea] [ea, eb] = 1 := by simp [meet, sameE_refl, sab]
theorem meet_abb : meet [ea, ea] [ea, eb, eb] = 1 := by simp [meet, sameE_refl, sab]
theorem keep1 : keepN [ea, ea] [ea, eb] 1 = 1 ∧ keepC [ea, ea] [ea, eb] 1 = 0 := by simp [keepN, keepC, meet_ab]
theorem keep2 : keepN [ea, ea] [ea, eb] 2 = 0 ∧ keepC [ea, ea] [ea, eb] 2 = 10 := by simp [keepN, keepC, meet_ab]
theorem keep3 : keepN [] [] 1 = 0 ∧ keepC [] [] 1 = 5 := by simp [keepN, keepC]
theorem clash1 : clash [ea, ea] [ea, eb] = 1 := by simp [clash, meet_ab]
theorem clash2 : clash [ea] [ea, eb] = -1 := by simp [clash, meet, sameE_refl]

/-- The eight cells of an entry that is a variable of its own. -/
structure EntB (w : World) (b : Nat) (e : Ent) : Prop where
  c0 : w.cell? ⟨b, 0, none⟩ = some (.int .i64 e.kind)
  c1 : w.cell? ⟨b, 1, none⟩ = some (.int .i64 e.view)
  c2 : w.cell? ⟨b, 2, none⟩ = some (.int .i64 e.id)
  c3 : w.cell? ⟨b, 3, none⟩ = some (.int .i64 e.tier)
  c4 : w.cell? ⟨b, 4, none⟩ = some (.int .i64 e.frm)
  c5 : w.cell? ⟨b, 5, none⟩ = some (.int .i64 e.upto)
  c6 : w.cell? ⟨b, 6, none⟩ = some (.int .u32 e.sum)
  c7 : w.cell? ⟨b, 7, none⟩ = some (.string e.text)
theorem EntB.keep {w w' : World} {b : Nat} {e : Ent} (h : EntB w b e) (hb : Below w.heap.size w w') : EntB w' b e := by
  have hl : b < w.heap.size := World.block_lt_of_cell? w _ h.c0
  exact ⟨(hb.cell hl).trans h.c0, (hb.cell hl).trans h.c1, (hb.cell hl).trans h.c2, (hb.cell hl).trans h.c3, (hb.cell hl).trans h.c4, (hb.cell hl).trans h.c5, (hb.cell hl).trans h.c6, (hb.cell hl).trans h.c7⟩
theorem EntB.lt {w : World} {b : Nat} {e : Ent} (h : EntB w b e) : b < w.heap.size := World.block_lt_of_cell? w _ h.c0
theorem EntB.of_block {w : World} {b : Nat} (e : Ent) (h : w.heap[b]? = some (.cells e.enc.toArray 29 (0, 0))) : EntB w b e := by
  have g : ∀ j, w.cell? ⟨b, j, none⟩ = e.enc.toArray[j]? := fun j => cell_of_row w b j _ 29 (0, 0) h
  exact ⟨g 0, g 1, g 2, g 3, g 4, g 5, g 6, g 7⟩
theorem cell_after {w w' : World} {a : Addr} {v : Value} (hb : Below w.heap.size w w') (h : w.cell? a = some v) : w'.cell? a = some v := (hb.cell (World.block_lt_of_cell? w a h)).trans h
theorem cell_alloc {w : World} {a : Addr} {v : Value} {o : Obj} (h : w.cell? a = some v) : (w.alloc o).cell? a = some v := (World.cell?_alloc_lt w o a (World.block_lt_of_cell? w a h)).trans h
theorem below_after {B : Nat} {w a b : World} (h : Below B w a) (k : Below a.heap.size a b) (hB : B ≤ a.heap.size) : Below B w b := h.trans (k.mono hB)
theorem World.heap_drew' (w : World) : w.drew.heap = w.heap := rfl
theorem heap_at (w : World) (o : Obj) (n : Nat) (h : n = w.heap.size) : (w.alloc o).heap[n]? = some o := by subst h; exact heap_alloc_new w o
theorem heap_old (w : World) (o : Obj) (n : Nat) (h : n < w.heap.size) : (w.alloc o).heap[n]? = w.heap[n]? := Below.heap_alloc w o n h

/-- The two variables of told, in whatever world. -/
structure Vars (B : Nat) (w : World) : Prop where
  a : w.heap[B]? = some (.cells ea.enc.toArray 29 (0, 0))
  b : w.heap[B + 1]? = some (.cells eb.enc.toArray 29 (0, 0))

theorem Vars.keep {B : Nat} {w w' : World} (h : Vars B w) (hb : Below w.heap.size w w') : Vars B w' :=
  ⟨(hb.block _ (Array.getElem?_eq_some_iff.1 h.a).1).trans h.a, (hb.block _ (Array.getElem?_eq_some_iff.1 h.b).1).trans h.b⟩
theorem Vars.lt {B : Nat} {w : World} (h : Vars B w) : B + 1 < w.heap.size := (Array.getElem?_eq_some_iff.1 h.b).1

/-- What told's last statement reads, in whatever world. -/
structure Trio (B rb ro : Nat) (w : World) : Prop where
  a : EntB w B ea
  b : EntB w (B + 1) eb
  r : EntAt w rb ro eb
theorem Trio.keep {B rb ro : Nat} {w w' : World} (h : Trio B rb ro w) (hb : Below w.heap.size w w') : Trio B rb ro w' :=
  ⟨h.a.keep hb, h.b.keep hb, h.r.keep fun p hp => hb.cell (by have : rb < w.heap.size := World.block_lt_of_cell? w _ h.r.c0; omega)⟩
theorem trio_all {B rb ro : Nat} {w w' : World} (hb : Below B w w') (hz : B + 1 < w'.heap.size) (t : Trio B rb ro w') :
    Below B w w' ∧ B + 1 < w'.heap.size ∧ w'.cell? ⟨B, 0, none⟩ = some (.int .i64 ea.kind) ∧ w'.cell? ⟨B, 1, none⟩ = some (.int .i64 ea.view) ∧ w'.cell? ⟨B, 2, none⟩ = some (.int .i64 ea.id) ∧ w'.cell? ⟨B, 3, none⟩ = some (.int .i64 ea.tier) ∧ w'.cell? ⟨B, 4, none⟩ = some (.int .i64 ea.frm) ∧ w'.cell? ⟨B, 5, none⟩ = some (.int .i64 ea.upto) ∧ w'.cell? ⟨B, 6, none⟩ = some (.int .u32 ea.sum) ∧ w'.cell? ⟨B, 7, none⟩ = some (.string ea.text) ∧ w'.cell? ⟨B + 1, 0, none⟩ = some (.int .i64 eb.kind) ∧ w'.cell? ⟨B + 1, 1, none⟩ = some (.int .i64 eb.view) ∧ w'.cell? ⟨B + 1, 2, none⟩ = some (.int .i64 eb.id) ∧ w'.cell? ⟨B + 1, 3, none⟩ = some (.int .i64 eb.tier) ∧ w'.cell? ⟨B + 1, 4, none⟩ = some (.int .i64 eb.frm) ∧ w'.cell? ⟨B + 1, 5, none⟩ = some (.int .i64 eb.upto) ∧ w'.cell? ⟨B + 1, 6, none⟩ = some (.int .u32 eb.sum) ∧ w'.cell? ⟨B + 1, 7, none⟩ = some (.string eb.text) ∧ w'.cell? ⟨rb, ro, none⟩ = some (.int .i64 eb.kind) ∧ w'.cell? ⟨rb, ro + 1, none⟩ = some (.int .i64 eb.view) ∧ w'.cell? ⟨rb, ro + 2, none⟩ = some (.int .i64 eb.id) ∧ w'.cell? ⟨rb, ro + 3, none⟩ = some (.int .i64 eb.tier) ∧ w'.cell? ⟨rb, ro + 4, none⟩ = some (.int .i64 eb.frm) ∧ w'.cell? ⟨rb, ro + 5, none⟩ = some (.int .i64 eb.upto) ∧ w'.cell? ⟨rb, ro + 6, none⟩ = some (.int .u32 eb.sum) ∧ w'.cell? ⟨rb, ro + 7, none⟩ = some (.string eb.text) :=
  ⟨hb, hz, t.a.c0, t.a.c1, t.a.c2, t.a.c3, t.a.c4, t.a.c5, t.a.c6, t.a.c7, t.b.c0, t.b.c1, t.b.c2, t.b.c3, t.b.c4, t.b.c5, t.b.c6, t.b.c7, t.r.c0, t.r.c1, t.r.c2, t.r.c3, t.r.c4, t.r.c5, t.r.c6, t.r.c7⟩

set_option maxHeartbeats 2000000 in
set_option maxRecDepth 100000 in
theorem told_any (w : World) : Calls Try.prog 8 #[] w fun e w' => e = .returned (.bool true) ∧ Below w.heap.size w w' := by
  go_enter Try.func8, Try.ntmps8
  go_wp2_with fail
  refine (keep_any _ _ 2 2 2 2 [ea, ea] [ea, eb] 1 _ (RdE.of_block (cs := ([ea, ea].flatMap Ent.enc).toArray) [ea, ea] ?h1 rfl) (RdE.of_block (cs := ([ea, eb].flatMap Ent.enc).toArray) [ea, eb] ?h2 rfl) (by omega) (by omega)).mono ?_
  case h1 => rw [heap_old _ _ _ (by simp), heap_at _ _ _ (by simp)]; rfl
  case h2 => rw [heap_at _ _ _ (by simp)]; rfl
  rintro e w1 ⟨rfl, hb1⟩
  rw [keep1.1, keep1.2]
  have b1 : Below w.heap.size w w1 := Below.trans (by go_grown) (hb1.mono (by simp; omega))
  have v1 : Vars w.heap.size w1 := by
    refine Vars.keep ⟨?_, ?_⟩ hb1
    · rw [heap_old _ _ _ (by simp; omega), heap_old _ _ _ (by simp; omega), heap_old _ _ _ (by simp), heap_at _ _ _ (by simp)]; rfl
    · rw [heap_old _ _ _ (by simp), heap_old _ _ _ (by simp), heap_at _ _ _ (by simp)]; rfl
  clear hb1
  have V1 := Lib.hid v1
  have l1 : w.heap.size + 1 < w1.heap.size := v1.lt
  have l1' : w.heap.size < w1.heap.size := by omega
  obtain ⟨p0, p1, p2, p3, p4, p5, p6, p7⟩ := EntB.of_block ea v1.a
  obtain ⟨q0, q1, q2, q3, q4, q5, q6, q7⟩ := EntB.of_block eb v1.b
  clear v1
  go_wp2_with fail
  refine (keep_any _ _ 2 2 2 2 [ea, ea] [ea, eb] 2 _ (RdE.of_block (cs := ([ea, ea].flatMap Ent.enc).toArray) [ea, ea] ?h3 rfl) (RdE.of_block (cs := ([ea, eb].flatMap Ent.enc).toArray) [ea, eb] ?h4 rfl) (by omega) (by omega)).mono ?_
  case h3 => rw [heap_old _ _ _ (by simp), heap_at _ _ _ (by simp)]; rfl
  case h4 => rw [heap_at _ _ _ (by simp)]; rfl
  rintro e w2 ⟨rfl, hb2⟩
  rw [keep2.1, keep2.2]
  have b2 : Below w.heap.size w w2 := b1.trans (Below.trans (((Below.refl _ _).alloc (by omega) _).alloc (by simp; omega) _) (hb2.mono (by simp; omega)))
  have v2 : Vars w.heap.size w2 := (V1.out.keep (((Below.refl _ _).alloc (Nat.le_refl _) _).alloc (by simp) _)).keep hb2
  clear hb2 V1 l1 l1' p0 p1 p2 p3 p4 p5 p6 p7 q0 q1 q2 q3 q4 q5 q6 q7 b1
  go_wp2_with fail
  refine (keep_any none none 0 0 0 0 [] [] 1 _ (RdE.empty _ _ _) (RdE.empty _ _ _) (by omega) (by omega)).mono ?_
  rintro e w3 ⟨rfl, hb3⟩
  rw [keep3.1, keep3.2]
  have b3 : Below w.heap.size w w3 := b2.trans (hb3.mono b2.size)
  have v3 := v2.keep hb3
  clear hb3 v2 b2
  have l1 : w.heap.size + 1 < w3.heap.size := v3.lt
  have l1' : w.heap.size < w3.heap.size := by omega
  obtain ⟨p0, p1, p2, p3, p4, p5, p6, p7⟩ := EntB.of_block ea v3.a
  obtain ⟨q0, q1, q2, q3, q4, q5, q6, q7⟩ := EntB.of_block eb v3.b
  have V3 := Lib.hid v3
  clear v3
  go_wp2_with fail
  refine (rest_any _ _ 2 3 2 3 [ea, ea] [ea, eb, eb] _ (RdE.of_block (cs := ([ea, ea].flatMap Ent.enc).toArray) [ea, ea] ?h5 rfl) (RdE.of_block (cs := ([ea, eb, eb].flatMap Ent.enc).toArray) [ea, eb, eb] ?h6 rfl) (by omega) (by omega) (by omega) (by simp [maxLen]) (fun h => by cases h)).mono ?_
  case h5 => rw [heap_old _ _ _ (by simp), heap_at _ _ _ (by simp)]; rfl
  case h6 => rw [heap_at _ _ _ (by simp)]; rfl
  rw [meet_abb]
  rintro e w4 ⟨A', c', rfl, hg4, hb4⟩
  have b4 : Below w.heap.size w w4 := b3.trans (Below.trans (((Below.refl _ _).alloc (by omega) _).alloc (by simp; omega) _) (hb4.mono (by simp; omega)))
  have v4 : Vars w.heap.size w4 := (V3.out.keep (((Below.refl _ _).alloc (Nat.le_refl _) _).alloc (by simp) _)).keep hb4
  clear hb4 V3 l1 l1' p0 p1 p2 p3 p4 p5 p6 p7 q0 q1 q2 q3 q4 q5 q6 q7 b3
  obtain ⟨rb, ro, re, rfl, rlt, rx, rat⟩ := hg4.rd.at_ 0 (by omega)
  simp at rx
  subst rx
  simp only [Nat.zero_mul, Nat.add_zero] at rat
  have K4 : Trio w.heap.size rb ro w4 := ⟨EntB.of_block ea v4.a, EntB.of_block eb v4.b, rat⟩
  clear hg4 rat
  have l1 : w.heap.size + 1 < w4.heap.size := v4.lt
  have l1' : w.heap.size < w4.heap.size := by omega
  clear v4
  go_wp2_with fail
  go_region_held3 (fun w' => Below w.heap.size w w' ∧ w.heap.size + 1 < w'.heap.size ∧ w'.cell? ⟨w.heap.size, 0, none⟩ = some (.int .i64 ea.kind) ∧ w'.cell? ⟨w.heap.size, 1, none⟩ = some (.int .i64 ea.view) ∧ w'.cell? ⟨w.heap.size, 2, none⟩ = some (.int .i64 ea.id) ∧ w'.cell? ⟨w.heap.size, 3, none⟩ = some (.int .i64 ea.tier) ∧ w'.cell? ⟨w.heap.size, 4, none⟩ = some (.int .i64 ea.frm) ∧ w'.cell? ⟨w.heap.size, 5, none⟩ = some (.int .i64 ea.upto) ∧ w'.cell? ⟨w.heap.size, 6, none⟩ = some (.int .u32 ea.sum) ∧ w'.cell? ⟨w.heap.size, 7, none⟩ = some (.string ea.text) ∧ w'.cell? ⟨w.heap.size + 1, 0, none⟩ = some (.int .i64 eb.kind) ∧ w'.cell? ⟨w.heap.size + 1, 1, none⟩ = some (.int .i64 eb.view) ∧ w'.cell? ⟨w.heap.size + 1, 2, none⟩ = some (.int .i64 eb.id) ∧ w'.cell? ⟨w.heap.size + 1, 3, none⟩ = some (.int .i64 eb.tier) ∧ w'.cell? ⟨w.heap.size + 1, 4, none⟩ = some (.int .i64 eb.frm) ∧ w'.cell? ⟨w.heap.size + 1, 5, none⟩ = some (.int .i64 eb.upto) ∧ w'.cell? ⟨w.heap.size + 1, 6, none⟩ = some (.int .u32 eb.sum) ∧ w'.cell? ⟨w.heap.size + 1, 7, none⟩ = some (.string eb.text) ∧ w'.cell? ⟨rb, ro, none⟩ = some (.int .i64 eb.kind) ∧ w'.cell? ⟨rb, ro + 1, none⟩ = some (.int .i64 eb.view) ∧ w'.cell? ⟨rb, ro + 2, none⟩ = some (.int .i64 eb.id) ∧ w'.cell? ⟨rb, ro + 3, none⟩ = some (.int .i64 eb.tier) ∧ w'.cell? ⟨rb, ro + 4, none⟩ = some (.int .i64 eb.frm) ∧ w'.cell? ⟨rb, ro + 5, none⟩ = some (.int .i64 eb.upto) ∧ w'.cell? ⟨rb, ro + 6, none⟩ = some (.int .u32 eb.sum) ∧ w'.cell? ⟨rb, ro + 7, none⟩ = some (.string eb.text))
    (first | (refine trio_all ?_ ?_ (K4.keep ?_) <;> first | omega | (simp only [World.size_alloc, World.size_drew]; omega) | (go_grown; done)) | (refine trio_all ?_ ?_ (K5.keep ?_) <;> first | omega | (simp only [World.size_alloc, World.size_drew]; omega) | (go_grown; done)) | (refine trio_all ?_ ?_ (K6.keep ?_) <;> first | omega | (simp only [World.size_alloc, World.size_drew]; omega) | (go_grown; done)))
    (first
      | (go_at_call 10
         with_reducible refine (clash_any _ _ 2 2 2 2 [ea, ea] [ea, eb] _ ?_ ?_ (by omega) (by omega)).mono ?_
         · exact RdE.of_block (cs := ([ea, ea].flatMap Ent.enc).toArray) [ea, ea] (by first | (rw [World.heap_drew', heap_old _ _ _ (by simp), heap_at _ _ _ (by simp)]; rfl) | (rw [World.heap_drew', heap_at _ _ _ (by simp)]; rfl)) rfl
         · exact RdE.of_block (cs := ([ea, eb].flatMap Ent.enc).toArray) [ea, eb] (by first | (rw [World.heap_drew', heap_old _ _ _ (by simp), heap_at _ _ _ (by simp)]; rfl) | (rw [World.heap_drew', heap_at _ _ _ (by simp)]; rfl)) rfl
         rw [clash1]
         rintro e w5 ⟨rfl, hb⟩
         have b5 : Below w.heap.size w w5 := below_after (by go_grown) hb (by simp only [World.size_alloc, World.size_drew]; omega)
         have z5 : w.heap.size + 1 < w5.heap.size := by have := hb.size; simp only [World.size_alloc, World.size_drew] at this; omega
         have K5 : Trio w.heap.size rb ro w5 := K4.keep (below_after (by go_grown) hb (by simp only [World.size_alloc, World.size_drew]; omega)))
      | (go_at_call 10
         with_reducible refine (clash_any _ _ 1 2 1 2 [ea] [ea, eb] _ ?_ ?_ (by omega) (by omega)).mono ?_
         · exact RdE.of_block (cs := ([ea].flatMap Ent.enc).toArray) [ea] (by first | (rw [heap_old _ _ _ (by simp), heap_at _ _ _ (by simp)]; rfl) | (rw [heap_at _ _ _ (by simp)]; rfl)) rfl
         · exact RdE.of_block (cs := ([ea, eb].flatMap Ent.enc).toArray) [ea, eb] (by first | (rw [heap_old _ _ _ (by simp), heap_at _ _ _ (by simp)]; rfl) | (rw [heap_at _ _ _ (by simp)]; rfl)) rfl
         rw [clash2]
         rintro e w6 ⟨rfl, hb⟩
         have b6 : Below w.heap.size w w6 := below_after (by go_grown) hb (by simp only [World.size_alloc]; omega)
         have z6 : w.heap.size + 1 < w6.heap.size := by have := hb.size; simp only [World.size_alloc] at this; omega
         have K6 : Trio w.heap.size rb ro w6 := K5.keep (below_after (by go_grown) hb (by simp only [World.size_alloc]; omega))))
  all_goals
    go_wp2
    go_ret
    exact ⟨rfl, b6⟩
end Go.Proofs.Ytmhjhhonmomlgaa
