import Derived.Test.YtgegjoeggbhaeaaC1
namespace Go.Proofs.Ytgegjoeggbhaeaa
open Go.RowKit Go.Conc

section
variable {P : Program} {a : Act} {w : World} {ops : Array Oper} {o : Oper} {c cap s r : Nat} {buf : Array Value} {z v : Value} {tm : Bool}
/-- A select of one send with a default: there is room. -/
theorem comm_send_room (ho : ops[0]? = some o) (hg : o.guard = none) (hr : (execOp a.eval o).run P w = .ok (.comm #[scase c v z] false .select) w) (hc : w.heap[c]? = some (.chan cap buf false s r tm)) (hroom : buf.size < cap) :
    ∀ (b : Frame), b.kind ≠ .early → ∀ (rest : List Nat) (k : List Item) (cs : List Frame), step P (lone (b.at a (.inRegion ops (0 :: rest) :: k)) cs w) =
      .next (lone ((b.at a (.inRegion ops (0 :: rest) :: k)).finish (.tuple #[goInt 0, .bool false])) cs (w.setChan c cap (buf.push v) false (s + 1) r tm)) :=
  fun _ hb _ _ _ => step_lone_select_send_room (stepG_comm ho (by simp [Region.wanted, hg]) hb hr) hc hroom
/-- .. there is none. -/
theorem comm_send_full (ho : ops[0]? = some o) (hg : o.guard = none) (hr : (execOp a.eval o).run P w = .ok (.comm #[scase c v z] false .select) w) (hc : w.heap[c]? = some (.chan cap buf false s r tm)) (hfull : cap ≤ buf.size) :
    ∀ (b : Frame), b.kind ≠ .early → ∀ (rest : List Nat) (k : List Item) (cs : List Frame), step P (lone (b.at a (.inRegion ops (0 :: rest) :: k)) cs w) =
      .next (lone ((b.at a (.inRegion ops (0 :: rest) :: k)).finish (.tuple #[goInt (-1), .bool false])) cs w) :=
  fun _ hb _ _ _ => step_lone_select_send_full (stepG_comm ho (by simp [Region.wanted, hg]) hb hr) hc hfull
/-- A select of one receive with a default: the buffer holds something. -/
theorem comm_recv_buf (ho : ops[0]? = some o) (hg : o.guard = none) (hr : (execOp a.eval o).run P w = .ok (.comm #[rcase c z] false .select) w) (hc : w.heap[c]? = some (.chan cap buf false s r tm)) (hsome : 0 < buf.size) :
    ∀ (b : Frame), b.kind ≠ .early → ∀ (rest : List Nat) (k : List Item) (cs : List Frame), step P (lone (b.at a (.inRegion ops (0 :: rest) :: k)) cs w) =
      .next (lone ((b.at a (.inRegion ops (0 :: rest) :: k)).finish (.tuple #[goInt 0, .bool true, buf.getD 0 undef])) cs (w.setChan c cap (buf.extract 1 buf.size) false s (r + 1) tm)) :=
  fun _ hb _ _ _ => step_lone_select_recv_buf (stepG_comm ho (by simp [Region.wanted, hg]) hb hr) hc hsome
/-- .. it is empty. -/
theorem comm_recv_none (ho : ops[0]? = some o) (hg : o.guard = none) (hr : (execOp a.eval o).run P w = .ok (.comm #[rcase c z] false .select) w) (hc : w.heap[c]? = some (.chan cap #[] false s r tm)) :
    ∀ (b : Frame), b.kind ≠ .early → ∀ (rest : List Nat) (k : List Item) (cs : List Frame), step P (lone (b.at a (.inRegion ops (0 :: rest) :: k)) cs w) =
      .next (lone ((b.at a (.inRegion ops (0 :: rest) :: k)).finish (.tuple #[goInt (-1), .bool false, z])) cs w) :=
  fun _ hb _ _ _ => step_lone_select_default (stepG_comm ho (by simp [Region.wanted, hg]) hb hr) hc
end

section
variable {P : Program} {Q : Exit → Act → World → Prop} {a : Act} {w w' : World} {ops : Array Oper} {o : Oper} {v : Value}
/-- One operation that yields a value. -/
theorem step_value {b : Frame} {i : Nat} {rest : List Nat} {k : List Item} {cs : List Frame} (ho : ops[i]? = some o) (hg : o.guard = none) (hr : (execOp a.eval o).run P w = .ok (.value v) w') :
    step P (lone (b.at a (.inRegion ops (i :: rest) :: k)) cs w) = .next (lone (b.at (a.put o.dst v) (.inRegion ops rest :: k)) cs w') := by
  have hw : Region.wanted o (yielded ops a.tmps) = true := by simp [Region.wanted, hg]
  have hfin : (b.at a (.inRegion ops (i :: rest) :: k)).finish v = b.at (a.put o.dst v) (.inRegion ops rest :: k) := by rw [Frame.finish_at, ho]; rfl
  have h2 := stepG_op (P := P) (b := b) (a := a) (k := k) (cs := cs) (w := w) (rest := rest) ho hw
  refine step_lone_go ?_
  rw [h2, ← hfin]
  simp [stepG.apply, hr]
/-- A plain send into a channel with room. -/
theorem step_send {b : Frame} (hb : b.kind ≠ .early) {i : Nat} {rest : List Nat} {k : List Item} {cs : List Frame} {c cap s r : Nat} {buf : Array Value} {z : Value} {tm : Bool} (ho : ops[i]? = some o) (hg : o.guard = none)
    (hr : (execOp a.eval o).run P w = .ok (.comm #[scase c v z] true .send) w) (hc : w.heap[c]? = some (.chan cap buf false s r tm)) (hroom : buf.size < cap) :
    step P (lone (b.at a (.inRegion ops (i :: rest) :: k)) cs w) = .next (lone (b.at (a.put o.dst undef) (.inRegion ops rest :: k)) cs (w.setChan c cap (buf.push v) false (s + 1) r tm)) := by
  have hfin : (b.at a (.inRegion ops (i :: rest) :: k)).finish undef = b.at (a.put o.dst undef) (.inRegion ops rest :: k) := by rw [Frame.finish_at, ho]; rfl
  rw [← hfin]
  exact step_lone_send_room (stepG_comm ho (by simp [Region.wanted, hg]) hb hr) hc hroom
/-- A region, step by step. -/
theorem wpN_region_steps {id : Nat} (h : ∀ (b : Frame), b.kind ≠ .early → ∀ (k : List Item) (cs : List Frame), ∃ a' w', Q .normal a' w' ∧ Steps P (lone (b.at a (.inRegion ops (List.range ops.size) :: k)) cs w) (lone (b.at a' (.inRegion ops [] :: k)) cs w')) : wpN P (Code.region id ops false) Q a w := by
  intro b hb k cs
  obtain ⟨a', w', hq, hs⟩ := h b hb k cs
  exact ⟨.normal, a', w', hq, .head step_region (hs.trans (.one step_region_end))⟩

/-- From the rules to a call. -/
theorem calls_of_wpN {f : FuncId} {fn : Func} {c : Code} {args : Array Value} {R : Ending → World → Prop}
    (hf : P.funcs[f]? = some fn) (hb : fn.body = some c)
    (h : wpN P c (bodyPost P fn R) { tmps := args ++ Array.replicate (fn.ntmps - args.size) undef, defers := [] } w) :
    Calls P f args w R := by
  intro cs
  let b : Frame := { (default : Frame) with fn := f, kind := .normal }
  have henter : Frame.enter P f args .normal = b.at { tmps := args ++ Array.replicate (fn.ntmps - args.size) undef, defers := [] } [.code c] := by
    simp [Frame.enter, Frame.at, hf, hb, b]
  obtain ⟨e, a', w', hq, harr⟩ := h b (by simp [b]) [] cs
  rw [← henter] at harr
  cases e with
  | normal =>
    obtain ⟨hd, v, hr, hR⟩ := hq
    exact ⟨.returned v, w', _, hR, Steps.trans harr (.one step_end), rfl, rfl, hd, rfl, fn, hf, hr⟩
  | ret =>
    obtain ⟨hd, v, hr, hR⟩ := hq
    obtain ⟨todo, hs⟩ := harr
    exact ⟨.returned v, w', _, hR, hs, rfl, rfl, hd, rfl, fn, hf, hr⟩
  | panic chain =>
    obtain ⟨hd, hR⟩ := hq
    obtain ⟨todo, hs⟩ := harr
    exact ⟨.panicked chain, w', _, hR, hs, rfl, rfl, hd, fn, hf⟩
  | exit id => exact hq.elim
  | goto l => exact hq.elim
  | outgrown => exact ⟨.outgrown, w', b, hq, harr.resolve_left (by simp [b]), rfl, trivial⟩
end
end Go.Proofs.Ytgegjoeggbhaeaa
