import Derived.Test.YtpanjdncjdellaaT8
namespace Go.Proofs.Ytpanjdncjdellaa
open Go.RowKit
theorem full_row (a0 : Int) (w : World) (_w0 : (Lit.int .i64 a0).wf = true) : Calls Try.prog 3 #[.int .i64 a0] w fun e w' => e = .returned (.bool true) ∧ Below w.heap.size w w' := full_any a0 w
end Go.Proofs.Ytpanjdncjdellaa
