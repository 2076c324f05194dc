import Derived.Test.YtjimaanleamgjaaKit
import Derived.Test.YtjimaanleamgjaaM
namespace Go.Proofs.Ytjimaanleamgjaa
open Go.RowKit

def Smp.enc (s : Smp) : List Value := [.int .i64 s.t, .int .i64 s.v]
theorem Smp.enc_len (s : Smp) : s.enc.length = 2 := rfl

theorem eql_smp (a0 a1 b0 b1 : Int) (w : World) : (binOp .eql 30 (.agg #[.int .i64 a0, .int .i64 a1]) (.agg #[.int .i64 b0, .int .i64 b1])).run Try.prog w = .ok (.bool (sameS ⟨a0, a1⟩ ⟨b0, b1⟩)) w := by
  unfold sameS
  go_simp
  repeat' split
  all_goals simp_all
theorem neq_smp (a0 a1 b0 b1 : Int) (w : World) : (binOp .neq 30 (.agg #[.int .i64 a0, .int .i64 a1]) (.agg #[.int .i64 b0, .int .i64 b1])).run Try.prog w = .ok (.bool (!sameS ⟨a0, a1⟩ ⟨b0, b1⟩)) w := by
  unfold sameS
  go_simp
  repeat' split
  all_goals simp_all

/-- A slice of samples: A, n as in the slice value; its elements xs. -/
def RdS (w : World) (B : Nat) (A : Option Addr) (n : Nat) (xs : List Smp) : Prop := xs.length = n ∧ Rd w B 2 A n (xs.flatMap Smp.enc)

/-- The two cells of a sample, each by itself. -/
structure SmpAt (w : World) (b o : Nat) (e : Smp) : Prop where
  c0 : w.cell? ⟨b, o, none⟩ = some (.int .i64 e.t)
  c1 : w.cell? ⟨b, o + 1, none⟩ = some (.int .i64 e.v)
theorem SmpAt.keep {w w' : World} {b o : Nat} {e : Smp} (h : SmpAt w b o e) (hk : ∀ p : Addr, p.block = b → w'.cell? p = w.cell? p) : SmpAt w' b o e :=
  ⟨(hk _ rfl).trans h.c0, (hk _ rfl).trans h.c1⟩

theorem RdS.at_ {w : World} {B : Nat} {A : Option Addr} {n : Nat} {es : List Smp} (h : RdS w B A n es) (k : Nat) (hk : k < n) :
    ∃ b off e, A = some ⟨b, off, none⟩ ∧ b < B ∧ es[k]? = some e ∧ SmpAt w b (off + k * 2) e := by
  obtain ⟨hl, hr⟩ := h
  obtain ⟨b, off, hA, hb, hc⟩ := hr.2 (by omega)
  have hx : es[k]? = some (es[k]'(by omega)) := List.getElem?_eq_getElem (by omega)
  have g : ∀ j u, (es[k]'(by omega)).enc[j]? = some u → w.cell? ⟨b, off + k * 2 + j, none⟩ = some u := fun j u hu => by
    rw [Nat.add_assoc]
    exact hc _ _ (flat_get Smp.enc 2 Smp.enc_len es k _ hx j u hu)
  exact ⟨b, off, _, hA, hb, hx, ⟨g 0 _ rfl, g 1 _ rfl⟩⟩

theorem smp_info : (Try.prog.info? 30).map (fun i => (i.zero, i.size, i.bytes)) = some (some (.agg #[.int .i64 0, .int .i64 0]), 2, 16) := by kernel_rfl

theorem enc_one (es : List Smp) : ∀ u ∈ es.flatMap Smp.enc, u.oneCell' = true := by
  intro u hu
  obtain ⟨e, _, h⟩ := List.mem_flatMap.1 hu
  simp [Smp.enc] at h
  rcases h with rfl | rfl <;> rfl

theorem RdS.of_own {w : World} {base n c : Nat} {A : Option Addr} {es : List Smp} (hl : es.length = n) (h : Own w base 30 2 (.slice A n c) n (es.flatMap Smp.enc)) : RdS w w.heap.size A n es := ⟨hl, h.rd⟩
theorem RdS.after {w w' : World} {n : Nat} {A : Option Addr} {es : List Smp} (h : RdS w w.heap.size A n es) (hb : Below w.heap.size w w') : RdS w' w'.heap.size A n es := ⟨h.1, h.2.after hb⟩
theorem RdS.more {w : World} {B B' n : Nat} {A : Option Addr} {es : List Smp} (h : RdS w B A n es) (hb : B ≤ B') : RdS w B' A n es := ⟨h.1, h.2.more hb⟩
theorem RdS.below {w w' : World} {B n : Nat} {A : Option Addr} {es : List Smp} (h : RdS w B A n es) (hb : Below B w w') : RdS w' B A n es := ⟨h.1, h.2.below hb⟩
theorem RdS.empty (w : World) (B : Nat) (A : Option Addr) : RdS w B A 0 [] := ⟨rfl, Rd.nil_ _ _ _ _⟩
theorem RdS.take {w : World} {B n : Nat} {A : Option Addr} {es : List Smp} (h : RdS w B A n es) {k : Nat} (hk : k ≤ n) : RdS w B A k (es.take k) := by
  refine ⟨by rw [List.length_take, h.1]; omega, ?_⟩
  have c := h.2.cut (i := 0) (m := k) (by omega) (A' := A) (fun _ b off e => by simpa using e)
  rw [Nat.zero_mul, List.drop_zero, flat_take Smp.enc 2 Smp.enc_len] at c
  exact c
theorem RdS.drop {w : World} {B n : Nat} {a : Addr} {es : List Smp} (h : RdS w B (some a) n es) {k : Nat} (hk : k ≤ n) : RdS w B (some (a.add (k * 2))) (n - k) (es.drop k) := by
  refine ⟨by rw [List.length_drop, h.1], ?_⟩
  have c := h.2.cut (i := k) (m := n - k) (by omega) (A' := some (a.add (k * 2))) (fun _ b off e => by injection e with e; subst e; rw [Addr.add_lit])
  rw [flat_drop Smp.enc 2 Smp.enc_len, List.take_of_length_le (by rw [flat_len Smp.enc 2 Smp.enc_len, List.length_drop, h.1]; omega)] at c
  exact c

/-- A slice of samples, as it goes from call to call. -/
structure GotS (w : World) (n : Nat) (xs : List Smp) (A : Option Addr) (c : Nat) : Prop where
  rd : RdS w w.heap.size A n xs
  le : n ≤ c
  cap : c ≤ maxLen
  nil : A = none → n = 0 ∧ c = 0
  ty : ∀ b o, A = some ⟨b, o, none⟩ → 0 < n → ∃ cs, w.heap[b]? = some (.cells cs 30 (0, 0))
theorem GotS.after {w w' : World} {n c : Nat} {xs : List Smp} {A : Option Addr} (h : GotS w n xs A c) (hb : Below w.heap.size w w') : GotS w' n xs A c :=
  ⟨h.rd.after hb, h.le, h.cap, h.nil, fun b o e hn => by
    obtain ⟨cs, hh⟩ := h.ty b o e hn
    exact ⟨cs, (hb.block b (Array.getElem?_eq_some_iff.1 hh).1).trans hh⟩⟩
theorem GotS.none_ (w : World) : GotS w 0 [] none 0 := ⟨RdS.empty _ _ _, Nat.le_refl _, by simp [maxLen], fun _ => ⟨rfl, rfl⟩, fun _ _ h => by cases h⟩
theorem GotS.of_own {w : World} {base n c : Nat} {A : Option Addr} {es : List Smp} (hl : es.length = n) (h : Own w base 30 2 (.slice A n c) n (es.flatMap Smp.enc)) (hf : n ≤ c ∧ c ≤ maxLen ∧ (A = none → n = 0 ∧ c = 0)) : GotS w n es A c :=
  ⟨RdS.of_own hl h, hf.1, hf.2.1, hf.2.2, fun b o e hn => by
    rcases h.2 with ⟨h0, _⟩ | ⟨g, off, cap, cur, hv, _, hh, _⟩
    · injection h0 with h0; rw [h0] at e; cases e
    · injection hv with hv
      rw [e] at hv
      injection hv with hv
      injection hv with hv _
      subst hv
      exact ⟨cur, hh⟩⟩
/-- Where another block than a row of samples has turned. -/
theorem GotS.beside {w w' : World} {n c : Nat} {xs : List Smp} {A : Option Addr} (h : GotS w n xs A c) {g t : Nat} {cs : Array Value} (hg : w.heap[g]? = some (.cells cs t (0, 0))) (ht : t ≠ 30) (hs : w.heap.size ≤ w'.heap.size) (hk : ∀ b, b < w.heap.size → b ≠ g → w'.heap[b]? = w.heap[b]?) : GotS w' n xs A c := by
  have ne : ∀ b o, A = some ⟨b, o, none⟩ → 0 < n → b ≠ g := fun b o e hn e2 => by
    subst e2
    obtain ⟨cs', hh⟩ := h.ty b o e hn
    rw [hg] at hh
    injection hh with hh
    injection hh with _ hh _
    exact ht hh
  refine ⟨⟨h.rd.1, h.rd.2.1, fun hn => ?_⟩, h.le, h.cap, h.nil, fun b o e hn => ?_⟩
  · obtain ⟨b, off, e, hb, hc⟩ := h.rd.2.2 hn
    exact ⟨b, off, e, Nat.lt_of_lt_of_le hb hs, fun j u hu => (World.cell?_of_block (hk b hb (ne b off e hn))).trans (hc j u hu)⟩
  · obtain ⟨cs', hh⟩ := h.ty b o e hn
    exact ⟨cs', (hk b (Array.getElem?_eq_some_iff.1 hh).1 (ne b o e hn)).trans hh⟩

/-- A head in a variable of its own. -/
def Var (w : World) (g : Nat) (z : Int) (A : Option Addr) (n c : Nat) : Prop := w.heap[g]? = some (.cells #[.int .i64 z, .slice A n c] 25 (0, 0))
section
variable {w w' : World} {g n c n' c' : Nat} {z z' : Int} {A A' : Option Addr}
theorem Var.lt (h : Var w g z A n c) : g < w.heap.size := (Array.getElem?_eq_some_iff.1 h).1
theorem Var.c0 (h : Var w g z A n c) : w.cell? ⟨g, 0, none⟩ = some (.int .i64 z) := by rw [cell_of_row w g 0 _ 25 (0, 0) h]; rfl
theorem Var.c1 (h : Var w g z A n c) : w.cell? ⟨g, 1, none⟩ = some (.slice A n c) := by rw [cell_of_row w g 1 _ 25 (0, 0) h]; rfl
theorem Var.f (h : Var w g z A n c) (i : Nat) : w.frozen? ⟨g, i, none⟩ = false := by simp [World.frozen?, show w.heap[g]? = _ from h]
theorem Var.keep (h : Var w g z A n c) (hb : Below w.heap.size w w') : Var w' g z A n c := (hb.block g h.lt).trans h
theorem Var.alloc (h : Var w g z A n c) (o : Obj) : Var (w.alloc o) g z A n c := (Below.heap_alloc w o g h.lt).trans h
theorem Var.new (w : World) (z : Int) (A : Option Addr) (n c : Nat) : Var (w.alloc (.cells #[.int .i64 z, .slice A n c] 25)) w.heap.size z A n c := heap_alloc_new w _
/-- Both fields are written. -/
theorem Var.set (h : Var w g z A n c) (z' : Int) (A' : Option Addr) (n' c' : Nat) : Var ((w.setCell ⟨g, 0, none⟩ (.int .i64 z')).setCell ⟨g, 1, none⟩ (.slice A' n' c')) g z' A' n' c' ∧
    ∀ b, b ≠ g → ((w.setCell ⟨g, 0, none⟩ (.int .i64 z')).setCell ⟨g, 1, none⟩ (.slice A' n' c')).heap[b]? = w.heap[b]? := by
  refine ⟨?_, fun b hb => by rw [heap_setCell_other _ _ _ _ (fun e => hb (by simpa using e)), heap_setCell_other _ _ _ _ (fun e => hb (by simpa using e))]⟩
  have h1 := setCell_eq_setRow w g 0 _ 25 (0, 0) (.int .i64 z') h
  rw [h1]
  have h2 := setRow_heap w g _ (#[Value.int .i64 z, .slice A n c].setIfInBounds 0 (.int .i64 z')) 25 (0, 0) h
  rw [setCell_eq_setRow _ g 1 _ 25 (0, 0) (.slice A' n' c') h2]
  exact setRow_heap _ g _ _ 25 (0, 0) h2
end
/-- A slice stands where a head's variable is written. -/
theorem GotS.set {w : World} {g n c n0 c0 : Nat} {z : Int} {A A0 : Option Addr} {xs : List Smp} (h : GotS w n xs A c) (hv : Var w g z A0 n0 c0) (z' : Int) (A' : Option Addr) (n' c' : Nat) :
    GotS ((w.setCell ⟨g, 0, none⟩ (.int .i64 z')).setCell ⟨g, 1, none⟩ (.slice A' n' c')) n xs A c :=
  h.beside hv (by decide) (by simp) (fun b _ hb => (hv.set z' A' n' c').2 b hb)

set_option maxHeartbeats 1000000 in
theorem rising_any (A : Option Addr) (n c : Nat) (z : Int) (xs : List Smp) (w : World) (h : RdS w w.heap.size A n xs) (ok : Ok z xs) :
    Calls Try.prog 21 #[.slice A n c] w fun e w' => e = .returned (.bool true) ∧ Below w.heap.size w w' := by
  have m1 : n ≤ 64 := by rw [← h.1]; exact ok.len
  have H := Lib.hid h
  clear h
  go_enter Try.func21, Try.ntmps21
  go_wp2; go_step3; go_wp2; go_step3; go_wp2
  go_loopg [3, 8] n (fun g s3 v wr => ∃ k : Nat, ∃ l : Int, k ≤ n ∧ n - k ≤ g ∧ v = .int .i64 k ∧ s3 = .int .i64 l ∧ Below w.heap.size w wr ∧ Hid (∀ j a, k ≤ j → xs[j]? = some a → l < a.t))
  case atStart =>
    refine ⟨0, -1, by omega, by omega, rfl, rfl, Below.refl _ _, ?_⟩
    intro j a _ ha
    have := ok.lo a (List.mem_of_getElem? ha)
    have := ok.z0
    omega
  case round =>
    obtain ⟨k, l, hk1, hg, rfl, rfl, HB, HA⟩ := hrel
    have hsz : w.heap.size ≤ wr.heap.size := HB.size
    by_cases hl1 : k < n
    · obtain ⟨b1, o1, x, rfl, hb1, hx, r1⟩ := H.out.at_ k hl1
      obtain ⟨p0, p1⟩ := r1.keep (w' := wr) fun p hp => HB.cell (by omega)
      have lx : l < x.t := HA.out k x (Nat.le_refl _) hx
      have hi : x.t < 1099511627776 := ok.hi x (List.mem_of_getElem? hx)
      have HX := Lib.hid hx
      clear r1 hx
      go_wp2
      go_roundg (n - (k + 1))
      case measure => omega
      case rel =>
        refine ⟨k + 1, x.t, by omega, by omega, by go_num, rfl, by go_grown, ?_⟩
        intro j a hj ha
        exact rise_get ok.rise (by omega) HX.out ha
    · go_wp2
      rw [Exit.noGoto_ret]
      go_ret
      exact ⟨rfl, HB⟩
end Go.Proofs.Ytjimaanleamgjaa
