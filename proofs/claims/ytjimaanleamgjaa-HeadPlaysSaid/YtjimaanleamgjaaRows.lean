/-
  No cell of these rows narrows 'for every input' (looked for: loops, veiled, ifaces, maps, wideKeys, modest, calm, conditions, laid).
  DERIVED. THE GIVEN ROWS OF THIS SEAT. 5 by the template 'for every input the law returns true; each argument reads behind the call as it read before'; 0 by the template 'total and deterministic' (their statements: YtjimaanleamgjaaTotals.lean).
  GIVEN WITH THE SEED: the statements are not yours to turn. If you find one false, say at which input.
  Laid BY PROGRAM, IN A SANDBOX (cutbox-rows.mjs): the forced cells as the released guide's own fill.sh prints them over the translation 271b0b7cbc727dc5… (all of the seat's roots in one cut). By AI agents, Wed Nov 11 2026. No macro, syntax, notation, axiom, sorry.
-/
import Derived.Test.YtjimaanleamgjaaChecked
import GoSem.Claim
import GoSem.ClaimJoined
import GoSem.ClaimMapViews
import Derived.JoinedTies
import Derived.KernelRfl
namespace Go.Proofs.Ytjimaanleamgjaa
/- THE CELL 'sum', in the pinned program and in every row, IS THE sha256 OF THE DUMP (.gsa) THAT YtjimaanleamgjaaProg.lean LOADS. Nothing in Lean hashes anything: it is a label: what it is worth is what the hold of that sum in a sandbox is worth. -/
noncomputable def Try.pinned : Pinned := { name := "ytjimaanleamgjaa", sum := "271b0b7cbc727dc54d97f9c197fa94c1e0e8a6c1ca12dddf62b2873d7f1de9da", checked := Try.checked }
namespace Rows
def none {H : Type} : Left H := { results := [], args := [] }

/-- 'twinkeeplaw7.HeadOrder': WHATEVER THE INPUT: true; the input reads as it did. -/
def headOrderSpec : ChangeSpec := { name := "headOrder", fn := fun _ => fun
  | [d] => { results := [.lit (.bool true)], args := [d] }
  | _ => none }
def headOrderRow : OpenClaim := { program := "ytjimaanleamgjaa", sum := "271b0b7cbc727dc54d97f9c197fa94c1e0e8a6c1ca12dddf62b2873d7f1de9da", func := "twinkeep/twinkeeplaw7.HeadOrder", spec := "headOrder", inPlace := ["slices.overlaps[twinkeep/api.Sample]"], apart := false }
def HeadOrderSaid : Prop := headOrderRow.holds Try.pinned (OpenSpec.ofChange headOrderSpec)

/-- ITS FALSE NEIGHBOUR: 'it returns false'. Refute it at one input. -/
def headOrderWrong : ChangeSpec := { name := "headOrder", fn := fun _ => fun
  | [d] => { results := [.lit (.bool false)], args := [d] }
  | _ => none }
def HeadOrderWrongFalsely : Prop := headOrderRow.holds Try.pinned (OpenSpec.ofChange headOrderWrong)

/-- 'twinkeeplaw7.HeadPlays': WHATEVER THE INPUT: true; the input reads as it did. -/
def headPlaysSpec : ChangeSpec := { name := "headPlays", fn := fun _ => fun
  | [d1, d2] => { results := [.lit (.bool true)], args := [d1, d2] }
  | _ => none }
def headPlaysRow : OpenClaim := { program := "ytjimaanleamgjaa", sum := "271b0b7cbc727dc54d97f9c197fa94c1e0e8a6c1ca12dddf62b2873d7f1de9da", func := "twinkeep/twinkeeplaw7.HeadPlays", spec := "headPlays", inPlace := ["slices.overlaps[twinkeep/api.Sample]"], apart := false }
def HeadPlaysSaid : Prop := headPlaysRow.holds Try.pinned (OpenSpec.ofChange headPlaysSpec)

/-- ITS FALSE NEIGHBOUR: 'it returns false'. Refute it at one input. -/
def headPlaysWrong : ChangeSpec := { name := "headPlays", fn := fun _ => fun
  | [d1, d2] => { results := [.lit (.bool false)], args := [d1, d2] }
  | _ => none }
def HeadPlaysWrongFalsely : Prop := headPlaysRow.holds Try.pinned (OpenSpec.ofChange headPlaysWrong)

/-- 'twinkeeplaw7.HeadFull': WHATEVER THE INPUT: true; the input reads as it did. -/
def headFullSpec : ChangeSpec := { name := "headFull", fn := fun _ => fun
  | [d] => { results := [.lit (.bool true)], args := [d] }
  | _ => none }
def headFullRow : OpenClaim := { program := "ytjimaanleamgjaa", sum := "271b0b7cbc727dc54d97f9c197fa94c1e0e8a6c1ca12dddf62b2873d7f1de9da", func := "twinkeep/twinkeeplaw7.HeadFull", spec := "headFull", inPlace := ["slices.overlaps[twinkeep/api.Sample]"], apart := false }
def HeadFullSaid : Prop := headFullRow.holds Try.pinned (OpenSpec.ofChange headFullSpec)

/-- ITS FALSE NEIGHBOUR: 'it returns false'. Refute it at one input. -/
def headFullWrong : ChangeSpec := { name := "headFull", fn := fun _ => fun
  | [d] => { results := [.lit (.bool false)], args := [d] }
  | _ => none }
def HeadFullWrongFalsely : Prop := headFullRow.holds Try.pinned (OpenSpec.ofChange headFullWrong)

/-- 'twinkeeplaw7.HeadTimes': WHATEVER THE INPUT: true; the input reads as it did. -/
def headTimesSpec : ChangeSpec := { name := "headTimes", fn := fun _ => fun
  | [d1, d2, d3] => { results := [.lit (.bool true)], args := [d1, d2, d3] }
  | _ => none }
def headTimesRow : OpenClaim := { program := "ytjimaanleamgjaa", sum := "271b0b7cbc727dc54d97f9c197fa94c1e0e8a6c1ca12dddf62b2873d7f1de9da", func := "twinkeep/twinkeeplaw7.HeadTimes", spec := "headTimes", inPlace := ["slices.overlaps[twinkeep/api.Sample]"], apart := false }
def HeadTimesSaid : Prop := headTimesRow.holds Try.pinned (OpenSpec.ofChange headTimesSpec)

/-- ITS FALSE NEIGHBOUR: 'it returns false'. Refute it at one input. -/
def headTimesWrong : ChangeSpec := { name := "headTimes", fn := fun _ => fun
  | [d1, d2, d3] => { results := [.lit (.bool false)], args := [d1, d2, d3] }
  | _ => none }
def HeadTimesWrongFalsely : Prop := headTimesRow.holds Try.pinned (OpenSpec.ofChange headTimesWrong)

/-- 'twinkeeplaw7.HeadSeals': WHATEVER THE INPUT: true; the input reads as it did. -/
def headSealsSpec : ChangeSpec := { name := "headSeals", fn := fun _ => fun
  | [d1, d2] => { results := [.lit (.bool true)], args := [d1, d2] }
  | _ => none }
def headSealsRow : OpenClaim := { program := "ytjimaanleamgjaa", sum := "271b0b7cbc727dc54d97f9c197fa94c1e0e8a6c1ca12dddf62b2873d7f1de9da", func := "twinkeep/twinkeeplaw7.HeadSeals", spec := "headSeals", inPlace := ["slices.overlaps[twinkeep/api.Sample]"], apart := false }
def HeadSealsSaid : Prop := headSealsRow.holds Try.pinned (OpenSpec.ofChange headSealsSpec)

/-- ITS FALSE NEIGHBOUR: 'it returns false'. Refute it at one input. -/
def headSealsWrong : ChangeSpec := { name := "headSeals", fn := fun _ => fun
  | [d1, d2] => { results := [.lit (.bool false)], args := [d1, d2] }
  | _ => none }
def HeadSealsWrongFalsely : Prop := headSealsRow.holds Try.pinned (OpenSpec.ofChange headSealsWrong)

/- THE SECOND FORM. 'bulk': how many values and letters a reading holds, each counted each time it is reached (what is shared counts as often as it is met; a slice's spare places count too). A statement '..UptoSaid' is the law's where the arguments, and the package variables that the reading takes, are together of bulk at most 1048576: NARROWER than '..Said'. Prove '..Said' where nothing that the law and all that it calls make is longer than what came in: it says more and counts as full. Else prove '..UptoSaid'. A law counts once. -/
mutual
def uptoBulk {H : Type} : DataW H → Nat
  | .lit (.string bytes) => bytes.length + 1
  | .lit _ => 1
  | .nil => 1
  | .ptr d => uptoBulk d + 1
  | .slice elems spare => uptoBulkAll elems + uptoBulkAll spare + 1
  | .agg parts => uptoBulkAll parts + 1
  | .iface _ d => uptoBulk d + 1
  | .map entries => uptoBulkEntries entries + 1
  | .held _ => 1
def uptoBulkAll {H : Type} : List (DataW H) → Nat
  | [] => 0
  | d :: r => uptoBulk d + uptoBulkAll r
def uptoBulkEntries {H : Type} : List (Lit × DataW H) → Nat
  | [] => 0
  | x :: r => uptoBulkEntry x + uptoBulkEntries r
def uptoBulkEntry {H : Type} : Lit × DataW H → Nat
  | (.string bytes, d) => bytes.length + uptoBulk d + 1
  | (_, d) => uptoBulk d + 1
 end
def uptoSmall : (H : Type) → List (DataW H) → Bool := fun _ ds => decide (uptoBulkAll ds ≤ 1048576)
def OpenSpec.upto (s : _root_.Go.ChangeSpec) : _root_.Go.OpenSpec := { _root_.Go.OpenSpec.ofChange s with cond := some uptoSmall }

/-- 'twinkeeplaw7.HeadOrder', WHERE WHAT IT READS IS OF BULK AT MOST 1048576: true; the input reads as it did. -/
def headOrderUptoRow : OpenClaim := { program := "ytjimaanleamgjaa", sum := "271b0b7cbc727dc54d97f9c197fa94c1e0e8a6c1ca12dddf62b2873d7f1de9da", func := "twinkeep/twinkeeplaw7.HeadOrder", spec := "headOrder", inPlace := ["slices.overlaps[twinkeep/api.Sample]"], apart := false, narrowed := true }
def HeadOrderUptoSaid : Prop := headOrderUptoRow.holds Try.pinned (OpenSpec.upto headOrderSpec)

/-- 'twinkeeplaw7.HeadPlays', WHERE WHAT IT READS IS OF BULK AT MOST 1048576: true; the input reads as it did. -/
def headPlaysUptoRow : OpenClaim := { program := "ytjimaanleamgjaa", sum := "271b0b7cbc727dc54d97f9c197fa94c1e0e8a6c1ca12dddf62b2873d7f1de9da", func := "twinkeep/twinkeeplaw7.HeadPlays", spec := "headPlays", inPlace := ["slices.overlaps[twinkeep/api.Sample]"], apart := false, narrowed := true }
def HeadPlaysUptoSaid : Prop := headPlaysUptoRow.holds Try.pinned (OpenSpec.upto headPlaysSpec)

/-- 'twinkeeplaw7.HeadFull', WHERE WHAT IT READS IS OF BULK AT MOST 1048576: true; the input reads as it did. -/
def headFullUptoRow : OpenClaim := { program := "ytjimaanleamgjaa", sum := "271b0b7cbc727dc54d97f9c197fa94c1e0e8a6c1ca12dddf62b2873d7f1de9da", func := "twinkeep/twinkeeplaw7.HeadFull", spec := "headFull", inPlace := ["slices.overlaps[twinkeep/api.Sample]"], apart := false, narrowed := true }
def HeadFullUptoSaid : Prop := headFullUptoRow.holds Try.pinned (OpenSpec.upto headFullSpec)

/-- 'twinkeeplaw7.HeadTimes', WHERE WHAT IT READS IS OF BULK AT MOST 1048576: true; the input reads as it did. -/
def headTimesUptoRow : OpenClaim := { program := "ytjimaanleamgjaa", sum := "271b0b7cbc727dc54d97f9c197fa94c1e0e8a6c1ca12dddf62b2873d7f1de9da", func := "twinkeep/twinkeeplaw7.HeadTimes", spec := "headTimes", inPlace := ["slices.overlaps[twinkeep/api.Sample]"], apart := false, narrowed := true }
def HeadTimesUptoSaid : Prop := headTimesUptoRow.holds Try.pinned (OpenSpec.upto headTimesSpec)

/-- 'twinkeeplaw7.HeadSeals', WHERE WHAT IT READS IS OF BULK AT MOST 1048576: true; the input reads as it did. -/
def headSealsUptoRow : OpenClaim := { program := "ytjimaanleamgjaa", sum := "271b0b7cbc727dc54d97f9c197fa94c1e0e8a6c1ca12dddf62b2873d7f1de9da", func := "twinkeep/twinkeeplaw7.HeadSeals", spec := "headSeals", inPlace := ["slices.overlaps[twinkeep/api.Sample]"], apart := false, narrowed := true }
def HeadSealsUptoSaid : Prop := headSealsUptoRow.holds Try.pinned (OpenSpec.upto headSealsSpec)

end Rows
end Go.Proofs.Ytjimaanleamgjaa
