/-
  No cell of these rows narrows 'for every input' (looked for: loops, veiled, ifaces, maps, wideKeys, modest, calm, conditions, laid).
  DERIVED. THE GIVEN ROWS OF THIS SEAT. 4 by the template 'for every input the law returns true; each argument reads behind the call as it read before'; 0 by the template 'total and deterministic' (their statements: YtmhjhhonmomlgaaTotals.lean).
  GIVEN WITH THE SEED: the statements are not yours to turn. If you find one false, say at which input.
  Laid BY PROGRAM, IN A SANDBOX (cutbox-rows.mjs): the forced cells as the released guide's own fill.sh prints them over the translation f67bed1c93a88823… (all of the seat's roots in one cut). By AI agents, Wed Nov 11 2026. No macro, syntax, notation, axiom, sorry.
-/
import Derived.Test.YtmhjhhonmomlgaaChecked
import GoSem.Claim
import GoSem.ClaimJoined
import GoSem.ClaimMapViews
import Derived.JoinedTies
import Derived.KernelRfl
namespace Go.Proofs.Ytmhjhhonmomlgaa
/- THE CELL 'sum', in the pinned program and in every row, IS THE sha256 OF THE DUMP (.gsa) THAT YtmhjhhonmomlgaaProg.lean LOADS. Nothing in Lean hashes anything: it is a label: what it is worth is what the hold of that sum in a sandbox is worth. -/
noncomputable def Try.pinned : Pinned := { name := "ytmhjhhonmomlgaa", sum := "f67bed1c93a88823244175a8e70b8a232d7505f1e78773a905170db61f09da94", checked := Try.checked }
namespace Rows
def none {H : Type} : Left H := { results := [], args := [] }

/-- 'twinkeeplaw19.CutSafe': WHATEVER THE INPUT: true; the input reads as it did. -/
def cutSafeSpec : ChangeSpec := { name := "cutSafe", fn := fun _ => fun
  | [d1, d2, d3] => { results := [.lit (.bool true)], args := [d1, d2, d3] }
  | _ => none }
def cutSafeRow : OpenClaim := { program := "ytmhjhhonmomlgaa", sum := "f67bed1c93a88823244175a8e70b8a232d7505f1e78773a905170db61f09da94", func := "twinkeep/twinkeeplaw19.CutSafe", spec := "cutSafe", apart := false }
def CutSafeSaid : Prop := cutSafeRow.holds Try.pinned (OpenSpec.ofChange cutSafeSpec)

/-- ITS FALSE NEIGHBOUR: 'it returns false'. Refute it at one input. -/
def cutSafeWrong : ChangeSpec := { name := "cutSafe", fn := fun _ => fun
  | [d1, d2, d3] => { results := [.lit (.bool false)], args := [d1, d2, d3] }
  | _ => none }
def CutSafeWrongFalsely : Prop := cutSafeRow.holds Try.pinned (OpenSpec.ofChange cutSafeWrong)

/-- 'twinkeeplaw19.CutAsks': WHATEVER THE INPUT: true; the input reads as it did. -/
def cutAsksSpec : ChangeSpec := { name := "cutAsks", fn := fun _ => fun
  | [d1, d2, d3] => { results := [.lit (.bool true)], args := [d1, d2, d3] }
  | _ => none }
def cutAsksRow : OpenClaim := { program := "ytmhjhhonmomlgaa", sum := "f67bed1c93a88823244175a8e70b8a232d7505f1e78773a905170db61f09da94", func := "twinkeep/twinkeeplaw19.CutAsks", spec := "cutAsks", apart := false }
def CutAsksSaid : Prop := cutAsksRow.holds Try.pinned (OpenSpec.ofChange cutAsksSpec)

/-- ITS FALSE NEIGHBOUR: 'it returns false'. Refute it at one input. -/
def cutAsksWrong : ChangeSpec := { name := "cutAsks", fn := fun _ => fun
  | [d1, d2, d3] => { results := [.lit (.bool false)], args := [d1, d2, d3] }
  | _ => none }
def CutAsksWrongFalsely : Prop := cutAsksRow.holds Try.pinned (OpenSpec.ofChange cutAsksWrong)

/-- 'twinkeeplaw19.CutFollows': WHATEVER THE INPUT: true; the input reads as it did. -/
def cutFollowsSpec : ChangeSpec := { name := "cutFollows", fn := fun _ => fun
  | [d1, d2, d3, d4] => { results := [.lit (.bool true)], args := [d1, d2, d3, d4] }
  | _ => none }
def cutFollowsRow : OpenClaim := { program := "ytmhjhhonmomlgaa", sum := "f67bed1c93a88823244175a8e70b8a232d7505f1e78773a905170db61f09da94", func := "twinkeep/twinkeeplaw19.CutFollows", spec := "cutFollows", apart := false }
def CutFollowsSaid : Prop := cutFollowsRow.holds Try.pinned (OpenSpec.ofChange cutFollowsSpec)

/-- ITS FALSE NEIGHBOUR: 'it returns false'. Refute it at one input. -/
def cutFollowsWrong : ChangeSpec := { name := "cutFollows", fn := fun _ => fun
  | [d1, d2, d3, d4] => { results := [.lit (.bool false)], args := [d1, d2, d3, d4] }
  | _ => none }
def CutFollowsWrongFalsely : Prop := cutFollowsRow.holds Try.pinned (OpenSpec.ofChange cutFollowsWrong)

/-- 'twinkeeplaw19.CutNone': WHATEVER THE INPUT: true; the input reads as it did. -/
def cutNoneSpec : ChangeSpec := { name := "cutNone", fn := fun _ => fun
  | [d1, d2] => { results := [.lit (.bool true)], args := [d1, d2] }
  | _ => none }
def cutNoneRow : OpenClaim := { program := "ytmhjhhonmomlgaa", sum := "f67bed1c93a88823244175a8e70b8a232d7505f1e78773a905170db61f09da94", func := "twinkeep/twinkeeplaw19.CutNone", spec := "cutNone", apart := false }
def CutNoneSaid : Prop := cutNoneRow.holds Try.pinned (OpenSpec.ofChange cutNoneSpec)

/-- ITS FALSE NEIGHBOUR: 'it returns false'. Refute it at one input. -/
def cutNoneWrong : ChangeSpec := { name := "cutNone", fn := fun _ => fun
  | [d1, d2] => { results := [.lit (.bool false)], args := [d1, d2] }
  | _ => none }
def CutNoneWrongFalsely : Prop := cutNoneRow.holds Try.pinned (OpenSpec.ofChange cutNoneWrong)

/- THE SECOND FORM. 'bulk': how many values and letters a reading holds, each counted each time it is reached (what is shared counts as often as it is met; a slice's spare places count too). A statement '..UptoSaid' is the law's where the arguments, and the package variables that the reading takes, are together of bulk at most 1048576: NARROWER than '..Said'. Prove '..Said' where nothing that the law and all that it calls make is longer than what came in: it says more and counts as full. Else prove '..UptoSaid'. A law counts once. -/
mutual
def uptoBulk {H : Type} : DataW H → Nat
  | .lit (.string bytes) => bytes.length + 1
  | .lit _ => 1
  | .nil => 1
  | .ptr d => uptoBulk d + 1
  | .slice elems spare => uptoBulkAll elems + uptoBulkAll spare + 1
  | .agg parts => uptoBulkAll parts + 1
  | .iface _ d => uptoBulk d + 1
  | .map entries => uptoBulkEntries entries + 1
  | .held _ => 1
def uptoBulkAll {H : Type} : List (DataW H) → Nat
  | [] => 0
  | d :: r => uptoBulk d + uptoBulkAll r
def uptoBulkEntries {H : Type} : List (Lit × DataW H) → Nat
  | [] => 0
  | x :: r => uptoBulkEntry x + uptoBulkEntries r
def uptoBulkEntry {H : Type} : Lit × DataW H → Nat
  | (.string bytes, d) => bytes.length + uptoBulk d + 1
  | (_, d) => uptoBulk d + 1
 end
def uptoSmall : (H : Type) → List (DataW H) → Bool := fun _ ds => decide (uptoBulkAll ds ≤ 1048576)
def OpenSpec.upto (s : _root_.Go.ChangeSpec) : _root_.Go.OpenSpec := { _root_.Go.OpenSpec.ofChange s with cond := some uptoSmall }

/-- 'twinkeeplaw19.CutSafe', WHERE WHAT IT READS IS OF BULK AT MOST 1048576: true; the input reads as it did. -/
def cutSafeUptoRow : OpenClaim := { program := "ytmhjhhonmomlgaa", sum := "f67bed1c93a88823244175a8e70b8a232d7505f1e78773a905170db61f09da94", func := "twinkeep/twinkeeplaw19.CutSafe", spec := "cutSafe", apart := false, narrowed := true }
def CutSafeUptoSaid : Prop := cutSafeUptoRow.holds Try.pinned (OpenSpec.upto cutSafeSpec)

/-- 'twinkeeplaw19.CutAsks', WHERE WHAT IT READS IS OF BULK AT MOST 1048576: true; the input reads as it did. -/
def cutAsksUptoRow : OpenClaim := { program := "ytmhjhhonmomlgaa", sum := "f67bed1c93a88823244175a8e70b8a232d7505f1e78773a905170db61f09da94", func := "twinkeep/twinkeeplaw19.CutAsks", spec := "cutAsks", apart := false, narrowed := true }
def CutAsksUptoSaid : Prop := cutAsksUptoRow.holds Try.pinned (OpenSpec.upto cutAsksSpec)

/-- 'twinkeeplaw19.CutFollows', WHERE WHAT IT READS IS OF BULK AT MOST 1048576: true; the input reads as it did. -/
def cutFollowsUptoRow : OpenClaim := { program := "ytmhjhhonmomlgaa", sum := "f67bed1c93a88823244175a8e70b8a232d7505f1e78773a905170db61f09da94", func := "twinkeep/twinkeeplaw19.CutFollows", spec := "cutFollows", apart := false, narrowed := true }
def CutFollowsUptoSaid : Prop := cutFollowsUptoRow.holds Try.pinned (OpenSpec.upto cutFollowsSpec)

/-- 'twinkeeplaw19.CutNone', WHERE WHAT IT READS IS OF BULK AT MOST 1048576: true; the input reads as it did. -/
def cutNoneUptoRow : OpenClaim := { program := "ytmhjhhonmomlgaa", sum := "f67bed1c93a88823244175a8e70b8a232d7505f1e78773a905170db61f09da94", func := "twinkeep/twinkeeplaw19.CutNone", spec := "cutNone", apart := false, narrowed := true }
def CutNoneUptoSaid : Prop := cutNoneUptoRow.holds Try.pinned (OpenSpec.upto cutNoneSpec)

end Rows
end Go.Proofs.Ytmhjhhonmomlgaa
