import Derived.Test.YtgegjoeggbhaeaaA7
namespace Go.Proofs.Ytgegjoeggbhaeaa
open Go.RowKit Go.Conc

theorem mkf (fn : Fn) (first cap : Array Value) (w : World) : (Instr.makeFunc fn first cap).run Try.prog w = .ok (.func fn first cap) w := rfl

/-- What look leaves of an air. -/
theorem Air.looked {w w1 w' : World} {B g h : Nat} {v lv : Value} {s s' : List Row} {J : World → List Nat → (Nat → Prop) → Prop} {F : Nat → Prop} {seen kept : List Nat} (a : Air w B g h v s) (o : Obj) (hw1 : w1 = w.alloc o)
    (i : In1 w1 w' g h v J F seen kept kept lv) (hF : ∀ j, F j → w.heap.size ≤ j) : Turn w w' g h v v ∧ (∀ j < w.heap.size, j ≠ h → w'.heap[j]? = w.heap[j]?) ∧ w.heap.size ≤ w'.heap.size := by
  subst hw1
  have hs : w.heap.size ≤ w'.heap.size := by have := i.only.size; simp at this; omega
  have hb : ∀ j < w.heap.size, j ≠ h → w'.heap[j]? = w.heap[j]? := fun j hj hn => (i.only.block j (by simp; omega) (fun e => by rcases e with e | e; exact absurd (hF j e) (by omega); exact hn e)).trans (heap_old _ _ _ hj)
  exact ⟨⟨i.only.os, i.only.tape, i.only.output, hs, fun j hj _ h2 _ => hb j hj h2, .inl rfl⟩, hb, hs⟩

set_option maxHeartbeats 1000000 in
theorem flying_any (B g h : Nat) (v : Value) (s : List Row) (w : World) (a : Air w B g h v s) : Calls Try.prog 16 #[.pointer (some ⟨g, 0, none⟩)] w fun e w' => ∃ fv, e = .returned fv ∧ Own w' w.heap.size 3 1 fv (flyOf s).length (nums (flyOf s)) ∧ Air w' B g h v s ∧ Turn w w' g h v v := by
  have hmf := mkf
  have hg := a.lt
  have hh := a.lth
  have H : Hid ((w.alloc (.cells #[.slice none 0 0] 46)).heap[g]? = some (.cells #[v, .chan (some h)] 52 (0, 0)) ∧ ∃ n r, (w.alloc (.cells #[.slice none 0 0] 46)).heap[h]? = some (.chan 200 (nums (flyOf s)).toArray false n r false)) := Lib.hid (by
    obtain ⟨n, r, e⟩ := a.ch
    exact ⟨(heap_old _ _ _ hg).trans a.top, n, r, (heap_old _ _ _ hh).trans e⟩)
  have J0 : Hid (JF w.heap.size w.heap.size (w.alloc (.cells #[.slice none 0 0] 46)) [] fun j => j = w.heap.size) := Lib.hid ⟨.slice none 0 0, heap_alloc_new _ _, Own.nil_ _ _ _ _, Nat.le_refl _, fun j => by simp [Value.ownBlock]⟩
  have AIR := Lib.hid a
  clear a
  go_enter Try.func16, Try.ntmps16
  go_wp2_with fail
  refine (look_any (asks_fly w.heap.size w.heap.size) (.inr rfl) g h v (flyOf s) (fun j => j = w.heap.size) (w.alloc (.cells #[.slice none 0 0] 46)) H.out.1 H.out.2 AIR.out.room J0.out (by omega) (by omega) AIR.out.ne).mono ?_
  rintro e w' ⟨rfl, lv, i⟩
  obtain ⟨F2, ⟨fv, q1, q2, _, _⟩, _, _⟩ := i.J
  obtain ⟨t1, t2, t3⟩ := AIR.out.looked (s' := s) _ rfl i (fun j hj => by omega)
  have c0 : w'.cell? ⟨w.heap.size, 0, none⟩ = some fv := by rw [cell_of_row w' _ 0 _ 46 (0, 0) q1]; rfl
  have air' : Air w' B g h v s := AIR.out.chan t3 t2 (by have := i.ch; rwa [List.filter_eq_self.2 (fun _ _ => rfl)] at this)
  have A2 := Lib.hid (And.intro q2 (And.intro air' t1))
  clear i q1 q2 t1 t2 t3 air'
  go_wp2
  go_ret
  exact ⟨_, rfl, A2.out⟩

theorem flying_nil (w : World) : Calls Try.prog 16 #[.pointer none] w fun e w' => e = .returned (.slice none 0 0) ∧ w' = w := by
  go_enter Try.func16, Try.ntmps16
  go_wp2
  go_ret
  exact ⟨rfl, rfl⟩

set_option maxHeartbeats 1000000 in
theorem index_any (A : Option Addr) (c : Nat) (xs : List Nat) (x : Int) (w : World) (hr : Rd w w.heap.size 1 A xs.length (nums xs)) (hx : xs.length ≤ 1000) : Calls Try.prog 26 #[.slice A xs.length c, .int .i64 x] w fun e w' => (∃ i : Int, e = .returned (.int .i64 i) ∧ (0 ≤ i ↔ ∃ k : Nat, k ∈ xs ∧ (k : Int) = x)) ∧ w' = w := by
  have HR := Lib.hid hr
  clear hr
  go_enter Try.func26, Try.ntmps26
  go_wp2_with fail
  refine wp_loop_ghost (fun m a w' => ∃ (k : Nat) (x5 x9 x10 x11 x12 x13 x14 x15 x16 x17 x18 : Value), k ≤ xs.length ∧ m = xs.length - k ∧ w' = w ∧ (∀ (j : Nat) (y : Nat), j < k → xs[j]? = some y → (y : Int) ≠ x) ∧
    a = ⟨#[.slice A xs.length c, .int .i64 x, undef, undef, .int .i64 0, x5, .slice A xs.length c, .int .i64 xs.length, .int .i64 k, x9, x10, x11, x12, x13, x14, x15, x16, x17, x18], []⟩) xs.length ?_ ?_
  · exact ⟨0, _, _, _, _, _, _, _, _, _, _, _, Nat.zero_le _, rfl, rfl, fun j y h => absurd h (by omega), rfl⟩
  · rintro m a w1 ⟨k, x5, x9, x10, x11, x12, x13, x14, x15, x16, x17, x18, hk, rfl, rfl, hne, rfl⟩
    have HN := Lib.hid hne
    clear hne
    by_cases hkl : k < xs.length
    · obtain ⟨b, off, rfl, hb, hc⟩ := HR.out.2 (by omega)
      have hcell : w1.cell? ⟨b, off + k, none⟩ = some (.int .i64 (xs[k] : Nat)) := hc k _ (by simp [nums, hkl])
      have hget : xs[k]? = some xs[k] := by simp [hkl]
      clear hc
      by_cases he : x = (xs[k] : Nat)
      · have HE := Lib.hid he
        go_wp2
        go_ret
        refine ⟨⟨_, rfl, ?_⟩, rfl⟩
        exact ⟨fun _ => ⟨_, List.getElem_mem hkl, HE.out.symm⟩, fun _ => by omega⟩
      · have HE := Lib.hid he
        go_wp2
        refine ⟨_, ?_, k + 1, _, _, _, _, _, _, _, _, _, _, _, hkl, rfl, True.intro, fun j y hj hy => ?_, rfl⟩
        · omega
        · rcases Nat.lt_or_ge j k with h1 | h1
          · exact HN.out j y h1 hy
          · obtain rfl : j = k := by omega
            rw [hget] at hy
            injection hy with hy
            subst hy
            exact fun e => HE.out e.symm
    · obtain rfl : k = xs.length := by omega
      go_wp2
      go_ret
      refine ⟨⟨-1, rfl, ?_⟩, rfl⟩
      constructor
      · intro h; omega
      · rintro ⟨y, hy, he⟩
        obtain ⟨j, hj, rfl⟩ := List.getElem_of_mem hy
        exact absurd he (HN.out j _ hj (by simp))

theorem contains_any (A : Option Addr) (c : Nat) (xs : List Nat) (x : Int) (w : World) (hr : Rd w w.heap.size 1 A xs.length (nums xs)) (hx : xs.length ≤ 1000) (b : Bool) (hb : b = true ↔ ∃ k : Nat, k ∈ xs ∧ (k : Int) = x) :
    Calls Try.prog 21 #[.slice A xs.length c, .int .i64 x] w fun e w' => e = .returned (.bool b) ∧ w' = w := by
  go_enter Try.func21, Try.ntmps21
  go_wp2_with fail
  refine (index_any A c xs x w hr hx).mono ?_
  rintro e w' ⟨⟨i, rfl, hi⟩, rfl⟩
  have e0 : decide (0 ≤ i) = b := by
    rw [← hb] at hi
    cases b
    · simpa using hi
    · simpa using hi
  have E0 := Lib.hid e0
  clear e0 hi
  go_wp2
  go_ret
  exact ⟨by simp [← E0.out], rfl⟩
end Go.Proofs.Ytgegjoeggbhaeaa
