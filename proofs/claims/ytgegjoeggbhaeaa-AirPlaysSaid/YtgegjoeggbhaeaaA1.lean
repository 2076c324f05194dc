import Derived.Test.YtgegjoeggbhaeaaC2
namespace Go.Proofs.Ytgegjoeggbhaeaa
open Go.RowKit Go.Conc

theorem int_bytes : ∃ i, Try.prog.info? 3 = some i ∧ i.bytes = 8 := by
  have h : (Try.prog.info? 3).map (·.bytes) = some 8 := by kernel_rfl
  obtain ⟨i, hi, hb⟩ := Option.map_eq_some_iff.1 h
  exact ⟨i, hi, hb⟩
theorem mk200 (w : World) : (Instr.makeChan 50 (.int .i64 200)).run Try.prog w = .ok (.chan (some w.heap.size)) (w.alloc (.chan 200 #[] false 0 0 false)) := by
  obtain ⟨i, hi, hb⟩ := int_bytes
  simpa using run_makeChan (P := Try.prog) (w := w) Try.underlying50 hi .i64 200 (by omega) (by rw [hb]; omega)

theorem new_any (w : World) : Calls Try.prog 6 #[] w fun e w' => e = .returned (.pointer (some ⟨w.heap.size + 1, 0, none⟩)) ∧ w' = (w.alloc (.chan 200 #[] false 0 0 false)).alloc (.cells #[.slice none 0 0, .chan (some w.heap.size)] 52) := by
  have mk := mk200
  go_enter Try.func6, Try.ntmps6
  go_wp2
  go_ret
  exact ⟨rfl, rfl⟩
end Go.Proofs.Ytgegjoeggbhaeaa
