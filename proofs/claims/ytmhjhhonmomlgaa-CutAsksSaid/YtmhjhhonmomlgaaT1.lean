import Derived.Test.YtmhjhhonmomlgaaKit
namespace Go.Proofs.Ytmhjhhonmomlgaa
open Go.RowKit

structure Ent where
  kind : Int
  view : Int
  id : Int
  tier : Int
  frm : Int
  upto : Int
  sum : Int
  text : ByteArray

def Ent.enc (e : Ent) : List Value := [.int .i64 e.kind, .int .i64 e.view, .int .i64 e.id, .int .i64 e.tier, .int .i64 e.frm, .int .i64 e.upto, .int .u32 e.sum, .string e.text]
theorem Ent.enc_len (e : Ent) : e.enc.length = 8 := rfl
def sameE (a b : Ent) : Bool := a.kind == b.kind && a.view == b.view && a.id == b.id && a.tier == b.tier && a.frm == b.frm && a.upto == b.upto && a.sum == b.sum && a.text.toList == b.text.toList

set_option maxHeartbeats 400000 in
theorem eql_ent (a b : Ent) (w : World) : (binOp .eql 29 (.agg a.enc.toArray) (.agg b.enc.toArray)).run Try.prog w = .ok (.bool (sameE a b)) w := by
  unfold Ent.enc sameE
  go_simp
  repeat' split
  all_goals simp_all

theorem eql_cells (a0 a1 a2 a3 a4 a5 a6 b0 b1 b2 b3 b4 b5 b6 : Int) (a7 b7 : ByteArray) (w : World) :
    (binOp .eql 29 (.agg #[.int .i64 a0, .int .i64 a1, .int .i64 a2, .int .i64 a3, .int .i64 a4, .int .i64 a5, .int .u32 a6, .string a7]) (.agg #[.int .i64 b0, .int .i64 b1, .int .i64 b2, .int .i64 b3, .int .i64 b4, .int .i64 b5, .int .u32 b6, .string b7])).run Try.prog w =
      .ok (.bool (sameE ⟨a0, a1, a2, a3, a4, a5, a6, a7⟩ ⟨b0, b1, b2, b3, b4, b5, b6, b7⟩)) w := eql_ent ⟨a0, a1, a2, a3, a4, a5, a6, a7⟩ ⟨b0, b1, b2, b3, b4, b5, b6, b7⟩ w

attribute [local go_sem ↓] eql_cells

theorem same_any (a b : Ent) (w : World) : Calls Try.prog 18 #[.agg a.enc.toArray, .agg b.enc.toArray] w fun e w' => e = .returned (.bool (sameE a b)) ∧ Below w.heap.size w w' := by
  unfold Ent.enc
  go_enter Try.func18, Try.ntmps18
  go_wp2
  go_ret
  exact ⟨rfl, by go_grown⟩

/-- A slice of entries: A, n as in the slice value; its elements es. -/
def RdE (w : World) (B : Nat) (A : Option Addr) (n : Nat) (es : List Ent) : Prop := es.length = n ∧ Rd w B 8 A n (es.flatMap Ent.enc)

def meet : List Ent → List Ent → Nat
  | a :: l, b :: r => if sameE a b then meet l r + 1 else 0
  | _, _ => 0

theorem meet_le : ∀ xs ys, meet xs ys ≤ xs.length ∧ meet xs ys ≤ ys.length
  | [], _ => by simp [meet]
  | _ :: _, [] => by simp [meet]
  | a :: l, b :: r => by
    have := meet_le l r
    simp only [meet]
    split <;> simp <;> omega

/-- Where the first k agree and the next two part, or one list ends, the lists meet in k. -/
theorem meet_at : ∀ (xs ys : List Ent) (k : Nat), (∀ j x y, j < k → xs[j]? = some x → ys[j]? = some y → sameE x y = true) → k ≤ xs.length → k ≤ ys.length →
    (∀ x y, xs[k]? = some x → ys[k]? = some y → sameE x y = false) → meet xs ys = k := by
  intro xs
  induction xs with
  | nil => intro ys k _ hk _ _; simp at hk; subst hk; simp [meet]
  | cons a l ih =>
    intro ys k h hk hk' hd
    cases ys with
    | nil => simp at hk'; subst hk'; simp [meet]
    | cons b bs =>
      cases k with
      | zero =>
        have := hd a b (by simp) (by simp)
        simp [meet, this]
      | succ k =>
        have h0 := h 0 a b (by omega) (by simp) (by simp)
        simp only [meet, h0, if_true]
        rw [ih bs k (fun j x y hj hx hy => h (j + 1) x y (by omega) (by simpa using hx) (by simpa using hy)) (by simpa using hk) (by simpa using hk') (fun x y hx hy => hd x y (by simpa using hx) (by simpa using hy))]

/-- The eight cells of an entry, each by itself. -/
structure EntAt (w : World) (b o : Nat) (e : Ent) : Prop where
  c0 : w.cell? ⟨b, o, none⟩ = some (.int .i64 e.kind)
  c1 : w.cell? ⟨b, o + 1, none⟩ = some (.int .i64 e.view)
  c2 : w.cell? ⟨b, o + 2, none⟩ = some (.int .i64 e.id)
  c3 : w.cell? ⟨b, o + 3, none⟩ = some (.int .i64 e.tier)
  c4 : w.cell? ⟨b, o + 4, none⟩ = some (.int .i64 e.frm)
  c5 : w.cell? ⟨b, o + 5, none⟩ = some (.int .i64 e.upto)
  c6 : w.cell? ⟨b, o + 6, none⟩ = some (.int .u32 e.sum)
  c7 : w.cell? ⟨b, o + 7, none⟩ = some (.string e.text)

theorem EntAt.keep {w w' : World} {b o : Nat} {e : Ent} (h : EntAt w b o e) (hk : ∀ p : Addr, p.block = b → w'.cell? p = w.cell? p) : EntAt w' b o e :=
  ⟨(hk _ rfl).trans h.c0, (hk _ rfl).trans h.c1, (hk _ rfl).trans h.c2, (hk _ rfl).trans h.c3, (hk _ rfl).trans h.c4, (hk _ rfl).trans h.c5, (hk _ rfl).trans h.c6, (hk _ rfl).trans h.c7⟩

theorem RdE.at_ {w : World} {B : Nat} {A : Option Addr} {n : Nat} {es : List Ent} (h : RdE w B A n es) (k : Nat) (hk : k < n) :
    ∃ b off e, A = some ⟨b, off, none⟩ ∧ b < B ∧ es[k]? = some e ∧ EntAt w b (off + k * 8) e := by
  obtain ⟨hl, hr⟩ := h
  obtain ⟨b, off, hA, hb, hc⟩ := hr.2 (by omega)
  have hx : es[k]? = some (es[k]'(by omega)) := List.getElem?_eq_getElem (by omega)
  have g : ∀ j u, (es[k]'(by omega)).enc[j]? = some u → w.cell? ⟨b, off + k * 8 + j, none⟩ = some u := fun j u hu => by
    rw [Nat.add_assoc]
    exact hc _ _ (flat_get Ent.enc 8 Ent.enc_len es k _ hx j u hu)
  exact ⟨b, off, _, hA, hb, hx, ⟨g 0 _ rfl, g 1 _ rfl, g 2 _ rfl, g 3 _ rfl, g 4 _ rfl, g 5 _ rfl, g 6 _ rfl, g 7 _ rfl⟩⟩

theorem meet_stop {xs ys : List Ent} {k : Nat} (h : Hid (∀ j x y, j < k → xs[j]? = some x → ys[j]? = some y → sameE x y = true)) (hk : k ≤ xs.length) (hk' : k ≤ ys.length)
    (hd : ∀ x y, xs[k]? = some x → ys[k]? = some y → sameE x y = false) : (k : Int) = (meet xs ys : Int) := by
  rw [meet_at xs ys k h.out hk hk' hd]
theorem pre_succ {xs ys : List Ent} {k : Nat} {x y : Ent} (h : Hid (∀ j x y, j < k → xs[j]? = some x → ys[j]? = some y → sameE x y = true)) (hx : xs[k]? = some x) (hy : ys[k]? = some y) (he : sameE x y = true) :
    Hid (∀ j x y, j < k + 1 → xs[j]? = some x → ys[j]? = some y → sameE x y = true) := by
  intro j x' y' hj hx' hy'
  by_cases e : j = k
  · subst e
    rw [hx] at hx'
    rw [hy] at hy'
    cases hx'
    cases hy'
    exact he
  · exact h.out j x' y' (by omega) hx' hy'

set_option maxHeartbeats 1000000 in
theorem refMeet_any (A1 A2 : Option Addr) (n1 n2 c1 c2 : Nat) (xs ys : List Ent) (w : World) (h1 : RdE w w.heap.size A1 n1 xs) (h2 : RdE w w.heap.size A2 n2 ys) (m1 : n1 ≤ 9223372036854775807) (m2 : n2 ≤ 9223372036854775807) :
    Calls Try.prog 15 #[.slice A1 n1 c1, .slice A2 n2 c2] w fun e w' => e = .returned (.int .i64 (meet xs ys)) ∧ ∃ q, w' = w.drewN q := by
  have l1 : xs.length = n1 := h1.1
  have l2 : ys.length = n2 := h2.1
  have H1 := Lib.hid h1
  have H2 := Lib.hid h2
  have L1 := Lib.hid l1
  have L2 := Lib.hid l2
  clear h1 h2 l1 l2
  go_enter Try.func15, Try.ntmps15
  go_wp2
  go_loopg [5] n1 (fun g v wr => ∃ k : Nat, k ≤ n1 ∧ k ≤ n2 ∧ n1 - k ≤ g ∧ v = .int .i64 k ∧ Hid (∃ q, wr = w.drewN q) ∧ Hid (∀ j x y, j < k → xs[j]? = some x → ys[j]? = some y → sameE x y = true))
  case atStart => exact ⟨0, by omega, by omega, by omega, rfl, ⟨0, rfl⟩, fun j x y hj => absurd hj (Nat.not_lt_zero _)⟩
  case round =>
    obtain ⟨k, hk1, hk2, hg, rfl, HW, HA⟩ := hrel
    by_cases hl1 : k < n1
    · by_cases hl2 : k < n2
      · obtain ⟨b1, o1, x, rfl, hb1, hx, r1⟩ := H1.out.at_ k hl1
        obtain ⟨b2, o2, y, rfl, hb2, hy, r2⟩ := H2.out.at_ k hl2
        have hw : ∀ p : Addr, wr.cell? p = w.cell? p := by obtain ⟨q, rfl⟩ := HW.out; intro p; simp
        obtain ⟨p0, p1, p2, p3, p4, p5, p6, p7⟩ := r1.keep (w' := wr) fun p _ => hw p
        obtain ⟨q0, q1, q2, q3, q4, q5, q6, q7⟩ := r2.keep (w' := wr) fun p _ => hw p
        have HX := Lib.hid hx
        have HY := Lib.hid hy
        clear r1 r2 hx hy hw
        cases he : sameE x y with
        | true =>
          go_wp2_with fail
          go_quiet (fail)
          go_wp2
          go_roundg (n1 - (k + 1))
          case measure => omega
          case rel => exact ⟨k + 1, by omega, by omega, by omega, by go_num, (by obtain ⟨q, rfl⟩ := HW.out; exact ⟨q + nq, by simp⟩), pre_succ HA HX.out HY.out he⟩
        | false =>
          go_wp2_with fail
          go_quiet (fail)
          go_wp2
          go_ret
          exact ⟨congrArg (fun z => Ending.returned (.int .i64 z)) (meet_stop HA (by have := L1.out; omega) (by have := L2.out; omega) (fun x' y' hx' hy' => by rw [HX.out] at hx'; rw [HY.out] at hy'; cases hx'; cases hy'; exact he)), by obtain ⟨q, rfl⟩ := HW.out; exact ⟨q + nq, by simp⟩⟩
      · have d1 : decide ((k : Int) < (n2 : Int)) = false := by simp; omega
        go_wp2_with fail
        go_quiet (fail)
        go_wp2
        go_ret
        exact ⟨congrArg (fun z => Ending.returned (.int .i64 z)) (meet_stop HA (by have := L1.out; omega) (by have := L2.out; omega) (fun x' y' hx' hy' => by rw [List.getElem?_eq_none (by have := L2.out; omega)] at hy'; cases hy')), by obtain ⟨q, rfl⟩ := HW.out; exact ⟨q + nq, by simp⟩⟩
    · have d1 : decide ((k : Int) < (n1 : Int)) = false := by simp; omega
      go_wp2_with fail
      go_quiet (fail)
      go_wp2
      go_ret
      exact ⟨congrArg (fun z => Ending.returned (.int .i64 z)) (meet_stop HA (by have := L1.out; omega) (by have := L2.out; omega) (fun x' y' hx' hy' => by rw [List.getElem?_eq_none (by have := L1.out; omega)] at hx'; cases hx')), by obtain ⟨q, rfl⟩ := HW.out; exact ⟨q + nq, by simp⟩⟩
end Go.Proofs.Ytmhjhhonmomlgaa
