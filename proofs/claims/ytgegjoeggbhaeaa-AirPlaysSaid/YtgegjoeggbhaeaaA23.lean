import Derived.Test.YtgegjoeggbhaeaaA22
import Derived.Test.YtgegjoeggbhaeaaA20
namespace Go.Proofs.Ytgegjoeggbhaeaa
open Go.RowKit Go.Conc

/-- A step of AirPlays, as its four cells read; the bytes behind its slice. -/
structure OpRow where
  kind : Int
  to : Int
  n : Int
  A : Option Addr
  len : Nat
  cap : Nat
  body : List Int
def OpRow.enc (o : OpRow) : List Value := [.int .i64 o.kind, .int .i64 o.to, .int .i64 o.n, .slice o.A o.len o.cap]
theorem OpRow.enc_len (o : OpRow) : o.enc.length = 4 := rfl

/-- The bytes of a step lie in w. -/
structure OpRow.Ok (o : OpRow) (w : World) (B : Nat) : Prop where
  rd : Rd w B 1 o.A o.len (byt o.body)
  nil : o.A = none → o.len = 0 ∧ o.cap = 0
  byte : ∀ x ∈ o.body, 0 ≤ x ∧ x < 256
/-- The steps that came in. -/
structure RdO (w : World) (B : Nat) (A : Option Addr) (n : Nat) (os : List OpRow) : Prop where
  len : os.length = n
  rd : Rd w B 4 A n (os.flatMap OpRow.enc)
  ok : ∀ o ∈ os, o.Ok w B

section
variable {w w' : World} {B n : Nat} {A : Option Addr} {os : List OpRow}
theorem OpRow.Ok.len_eq {o : OpRow} (h : o.Ok w B) : o.len = o.body.length := by have := h.rd.1; simp at this; omega
theorem OpRow.Ok.below {o : OpRow} (h : o.Ok w w.heap.size) (hb : Below w.heap.size w w') : o.Ok w' w'.heap.size := ⟨h.rd.after hb, h.nil, h.byte⟩
theorem RdO.cells (h : RdO w w.heap.size A n os) (hb : Below w.heap.size w w') {i : Nat} {o : OpRow} (hi : os[i]? = some o) :
    ∃ b off, A = some ⟨b, off, none⟩ ∧ w'.cell? ⟨b, off + i * 4, none⟩ = some (.int .i64 o.kind) ∧ w'.cell? ⟨b, off + i * 4 + 1, none⟩ = some (.int .i64 o.to) ∧ w'.cell? ⟨b, off + i * 4 + 2, none⟩ = some (.int .i64 o.n) ∧ w'.cell? ⟨b, off + i * 4 + 3, none⟩ = some (.slice o.A o.len o.cap) ∧ b < w'.heap.size := by
  have hl : i < os.length := (List.getElem?_eq_some_iff.1 hi).1
  have h0 := h.len
  obtain ⟨b, off, e, hbs, hc⟩ := (h.rd.below hb).2 (by omega)
  have hsz := hb.size
  refine ⟨b, off, e, ?_, ?_, ?_, ?_, by omega⟩
  · have := hc _ _ (flat_get OpRow.enc 4 OpRow.enc_len os i o hi 0 _ rfl)
    simpa using this
  · have := hc _ _ (flat_get OpRow.enc 4 OpRow.enc_len os i o hi 1 _ rfl)
    simpa [Nat.add_assoc] using this
  · have := hc _ _ (flat_get OpRow.enc 4 OpRow.enc_len os i o hi 2 _ rfl)
    simpa [Nat.add_assoc] using this
  · have := hc _ _ (flat_get OpRow.enc 4 OpRow.enc_len os i o hi 3 _ rfl)
    simpa [Nat.add_assoc] using this
end

theorem numsOf_str (body : List Int) (h : ∀ x ∈ body, 0 ≤ x ∧ x < 256) : numsOf (strOfNums body) = body := by
  unfold numsOf
  rw [strOfNums_data, List.map_map]
  conv => rhs; rw [← List.map_id body]
  refine List.map_congr_left fun x hx => ?_
  have := h x hx
  simp only [Function.comp, id, UInt8.toNat_ofNat']
  omega

/-- string(b) of bytes that came in. -/
theorem conv_rd {w : World} {B n c : Nat} {A : Option Addr} {body : List Int} (h : Rd w B 1 A n (byt body)) : (convert 30 9 (.slice A n c)).run Try.prog w = .ok (.string (strOfNums body)) w := by
  have hn : n = body.length := by have := h.1; simp at this; omega
  rcases Nat.eq_zero_or_pos n with h0 | h0
  · subst h0
    obtain rfl : body = [] := List.eq_nil_of_length_eq_zero hn.symm
    rw [run_convert_bytes_string w 30 9 5 A 0 c Try.underlying30 u8_under Try.underlying9]
    cases A <;> simp [Conv.bytesToString, loadCells]
    all_goals rfl
  · obtain ⟨b, off, rfl, _, hc⟩ := h.2 h0
    refine run_convert_bytes_arg w 30 5 Try.underlying30 u8_under _ _ _ _ body hn.symm (fun i hi => ?_) 9 Try.underlying9
    exact hc i _ (by simp [byt, List.getD_eq_getElem?_getD, List.getElem?_eq_getElem (show i < body.length by omega)])

/-- A new reference beside a new air. -/
theorem two_new {w w1 : World} {g h : Nat} (a : Air w1 w.heap.size g h (.slice none 0 0) []) (b : Below w.heap.size w w1) :
    Two w.heap.size (w1.alloc (.cells #[.slice none 0 0] 28)) g h (.slice none 0 0) [] w1.heap.size (.slice none 0 0) [] :=
  ⟨a.below ((Below.refl _ _).alloc (Nat.le_refl _) _), ⟨heap_alloc_new _ _, ⟨[], rfl, Own.nil_ _ _ _ _, fun q hq => by simp at hq⟩, b.size, by simp⟩, fun j hj => by simp [Value.ownBlock] at hj⟩

/-- Where AirPlays stands: the world, what has come of both airs; every datagram is for one of the three ends. -/
structure Play (w w' : World) (g h : Nat) (v : Value) (p : Nat) (u : Value) (s : List Row) : Prop where
  two : Two w.heap.size w' g h v s p u s
  below : Below w.heap.size w w'
  tos : ∀ r ∈ s, 0 ≤ r.to ∧ r.to < 3
def PlayAt (w w' : World) (g h p i : Nat) : Prop := ∃ v u s, s.length ≤ i ∧ Play w w' g h v p u s

/-- The kind of a step. -/
theorem kind_nat (x : Int) : ∃ k : Nat, k < 7 ∧ (x.tmod 7 + 7).tmod 7 = (k : Int) ∧ -7 < x.tmod 7 ∧ x.tmod 7 < 7 := by
  have h1 : -7 < x.tmod 7 ∧ x.tmod 7 < 7 := by
    rcases Int.le_total 0 x with h | h
    · rw [Int.tmod_eq_emod_of_nonneg h]; omega
    · have e : x.tmod 7 = -((-x).tmod 7) := by rw [Int.neg_tmod, Int.neg_neg]
      rw [e, Int.tmod_eq_emod_of_nonneg (by omega)]; omega
  have e : (x.tmod 7 + 7).tmod 7 = (x.tmod 7 + 7) % 7 := Int.tmod_eq_emod_of_nonneg (by omega)
  exact ⟨((x.tmod 7 + 7) % 7).toNat, by omega, by rw [e]; omega, h1.1, h1.2⟩
end Go.Proofs.Ytgegjoeggbhaeaa
