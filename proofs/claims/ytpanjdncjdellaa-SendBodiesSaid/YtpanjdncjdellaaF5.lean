import Derived.Test.YtpanjdncjdellaaT10
namespace Go.Proofs.Ytpanjdncjdellaa
open Go.RowKit
theorem bodies_row (a0 a1 : Int) (w : World) (_w0 : (Lit.int .i64 a0).wf = true) (_w1 : (Lit.int .i64 a1).wf = true) : Calls Try.prog 5 #[.int .i64 a0, .int .i64 a1] w fun e w' => e = .returned (.bool true) ∧ Below w.heap.size w w' := bodies_any a0 a1 w
end Go.Proofs.Ytpanjdncjdellaa
