/-
  No cell of these rows narrows 'for every input' (looked for: loops, veiled, ifaces, maps, wideKeys, modest, calm, conditions, laid).
  DERIVED. THE GIVEN ROWS OF THIS SEAT. 5 by the template 'for every input the law returns true; each argument reads behind the call as it read before'; 0 by the template 'total and deterministic' (their statements: YtmpmkjlkhlagfaaTotals.lean).
  GIVEN WITH THE SEED: the statements are not yours to turn. If you find one false, say at which input.
  Laid BY PROGRAM, IN A SANDBOX (cutbox-rows.mjs): the forced cells as the released guide's own fill.sh prints them over the translation 5a4f3b2d57553691… (all of the seat's roots in one cut). By AI agents, Wed Nov 11 2026. No macro, syntax, notation, axiom, sorry.
-/
import Derived.Test.YtmpmkjlkhlagfaaChecked
import GoSem.Claim
import GoSem.ClaimJoined
import GoSem.ClaimMapViews
import Derived.JoinedTies
import Derived.KernelRfl
namespace Go.Proofs.Ytmpmkjlkhlagfaa
/- THE CELL 'sum', in the pinned program and in every row, IS THE sha256 OF THE DUMP (.gsa) THAT YtmpmkjlkhlagfaaProg.lean LOADS. Nothing in Lean hashes anything: it is a label: what it is worth is what the hold of that sum in a sandbox is worth. -/
noncomputable def Try.pinned : Pinned := { name := "ytmpmkjlkhlagfaa", sum := "5a4f3b2d5755369121793f6baaa4d40d6c2e431c13e215f92999361edc950d3f", checked := Try.checked }
namespace Rows
def none {H : Type} : Left H := { results := [], args := [] }

/-- 'foundrylaw18.LineUnits': WHATEVER THE INPUT: true; the input reads as it did. -/
def lineUnitsSpec : ChangeSpec := { name := "lineUnits", fn := fun _ => fun
  | [d1, d2] => { results := [.lit (.bool true)], args := [d1, d2] }
  | _ => none }
def lineUnitsRow : OpenClaim := { program := "ytmpmkjlkhlagfaa", sum := "5a4f3b2d5755369121793f6baaa4d40d6c2e431c13e215f92999361edc950d3f", func := "foundry/foundrylaw18.LineUnits", spec := "lineUnits", inPlace := ["internal/bytealg.IndexByteString", "internal/bytealg.IndexString", "internal/bytealg.IndexByte"], unfollowed := true, recurses := true, named := ["internal/bytealg.MaxLen"], apart := false }
def LineUnitsSaid : Prop := lineUnitsRow.holds Try.pinned (OpenSpec.ofChange lineUnitsSpec)

/-- ITS FALSE NEIGHBOUR: 'it returns false'. Refute it at one input. -/
def lineUnitsWrong : ChangeSpec := { name := "lineUnits", fn := fun _ => fun
  | [d1, d2] => { results := [.lit (.bool false)], args := [d1, d2] }
  | _ => none }
def LineUnitsWrongFalsely : Prop := lineUnitsRow.holds Try.pinned (OpenSpec.ofChange lineUnitsWrong)

/-- 'foundrylaw18.LineBack': WHATEVER THE INPUT: true; the input reads as it did. -/
def lineBackSpec : ChangeSpec := { name := "lineBack", fn := fun _ => fun
  | [d1, d2] => { results := [.lit (.bool true)], args := [d1, d2] }
  | _ => none }
def lineBackRow : OpenClaim := { program := "ytmpmkjlkhlagfaa", sum := "5a4f3b2d5755369121793f6baaa4d40d6c2e431c13e215f92999361edc950d3f", func := "foundry/foundrylaw18.LineBack", spec := "lineBack", inPlace := ["internal/bytealg.IndexByteString", "internal/bytealg.IndexString", "internal/bytealg.IndexByte"], unfollowed := true, recurses := true, named := ["internal/bytealg.MaxLen"], apart := false }
def LineBackSaid : Prop := lineBackRow.holds Try.pinned (OpenSpec.ofChange lineBackSpec)

/-- ITS FALSE NEIGHBOUR: 'it returns false'. Refute it at one input. -/
def lineBackWrong : ChangeSpec := { name := "lineBack", fn := fun _ => fun
  | [d1, d2] => { results := [.lit (.bool false)], args := [d1, d2] }
  | _ => none }
def LineBackWrongFalsely : Prop := lineBackRow.holds Try.pinned (OpenSpec.ofChange lineBackWrong)

/-- 'foundrylaw18.LineFinds': WHATEVER THE INPUT: true; the input reads as it did. -/
def lineFindsSpec : ChangeSpec := { name := "lineFinds", fn := fun _ => fun
  | [d1, d2] => { results := [.lit (.bool true)], args := [d1, d2] }
  | _ => none }
def lineFindsRow : OpenClaim := { program := "ytmpmkjlkhlagfaa", sum := "5a4f3b2d5755369121793f6baaa4d40d6c2e431c13e215f92999361edc950d3f", func := "foundry/foundrylaw18.LineFinds", spec := "lineFinds", inPlace := ["internal/bytealg.IndexByteString", "internal/bytealg.IndexString", "internal/bytealg.IndexByte"], unfollowed := true, recurses := true, named := ["internal/bytealg.MaxLen"], apart := false }
def LineFindsSaid : Prop := lineFindsRow.holds Try.pinned (OpenSpec.ofChange lineFindsSpec)

/-- ITS FALSE NEIGHBOUR: 'it returns false'. Refute it at one input. -/
def lineFindsWrong : ChangeSpec := { name := "lineFinds", fn := fun _ => fun
  | [d1, d2] => { results := [.lit (.bool false)], args := [d1, d2] }
  | _ => none }
def LineFindsWrongFalsely : Prop := lineFindsRow.holds Try.pinned (OpenSpec.ofChange lineFindsWrong)

/-- 'foundrylaw18.LineMoved': WHATEVER THE INPUT: true; the input reads as it did. -/
def lineMovedSpec : ChangeSpec := { name := "lineMoved", fn := fun _ => fun
  | [d1, d2, d3] => { results := [.lit (.bool true)], args := [d1, d2, d3] }
  | _ => none }
def lineMovedRow : OpenClaim := { program := "ytmpmkjlkhlagfaa", sum := "5a4f3b2d5755369121793f6baaa4d40d6c2e431c13e215f92999361edc950d3f", func := "foundry/foundrylaw18.LineMoved", spec := "lineMoved", inPlace := ["internal/bytealg.IndexByteString", "internal/bytealg.IndexString", "internal/bytealg.IndexByte"], unfollowed := true, recurses := true, named := ["internal/bytealg.MaxLen"], apart := false }
def LineMovedSaid : Prop := lineMovedRow.holds Try.pinned (OpenSpec.ofChange lineMovedSpec)

/-- ITS FALSE NEIGHBOUR: 'it returns false'. Refute it at one input. -/
def lineMovedWrong : ChangeSpec := { name := "lineMoved", fn := fun _ => fun
  | [d1, d2, d3] => { results := [.lit (.bool false)], args := [d1, d2, d3] }
  | _ => none }
def LineMovedWrongFalsely : Prop := lineMovedRow.holds Try.pinned (OpenSpec.ofChange lineMovedWrong)

/-- 'foundrylaw18.LineSpecial': WHATEVER THE INPUT: true; the input reads as it did. -/
def lineSpecialSpec : ChangeSpec := { name := "lineSpecial", fn := fun _ => fun
  | [d1, d2, d3, d4, d5] => { results := [.lit (.bool true)], args := [d1, d2, d3, d4, d5] }
  | _ => none }
def lineSpecialRow : OpenClaim := { program := "ytmpmkjlkhlagfaa", sum := "5a4f3b2d5755369121793f6baaa4d40d6c2e431c13e215f92999361edc950d3f", func := "foundry/foundrylaw18.LineSpecial", spec := "lineSpecial", inPlace := ["internal/bytealg.IndexByteString", "internal/bytealg.IndexString", "internal/bytealg.IndexByte"], unfollowed := true, recurses := true, named := ["internal/bytealg.MaxLen"], apart := false }
def LineSpecialSaid : Prop := lineSpecialRow.holds Try.pinned (OpenSpec.ofChange lineSpecialSpec)

/-- ITS FALSE NEIGHBOUR: 'it returns false'. Refute it at one input. -/
def lineSpecialWrong : ChangeSpec := { name := "lineSpecial", fn := fun _ => fun
  | [d1, d2, d3, d4, d5] => { results := [.lit (.bool false)], args := [d1, d2, d3, d4, d5] }
  | _ => none }
def LineSpecialWrongFalsely : Prop := lineSpecialRow.holds Try.pinned (OpenSpec.ofChange lineSpecialWrong)

/- THE SECOND FORM. 'bulk': how many values and letters a reading holds, each counted each time it is reached (what is shared counts as often as it is met; a slice's spare places count too). A statement '..UptoSaid' is the law's where the arguments, and the package variables that the reading takes, are together of bulk at most 1048576: NARROWER than '..Said'. Prove '..Said' where nothing that the law and all that it calls make is longer than what came in: it says more and counts as full. Else prove '..UptoSaid'. A law counts once. -/
mutual
def uptoBulk {H : Type} : DataW H → Nat
  | .lit (.string bytes) => bytes.length + 1
  | .lit _ => 1
  | .nil => 1
  | .ptr d => uptoBulk d + 1
  | .slice elems spare => uptoBulkAll elems + uptoBulkAll spare + 1
  | .agg parts => uptoBulkAll parts + 1
  | .iface _ d => uptoBulk d + 1
  | .map entries => uptoBulkEntries entries + 1
  | .held _ => 1
def uptoBulkAll {H : Type} : List (DataW H) → Nat
  | [] => 0
  | d :: r => uptoBulk d + uptoBulkAll r
def uptoBulkEntries {H : Type} : List (Lit × DataW H) → Nat
  | [] => 0
  | x :: r => uptoBulkEntry x + uptoBulkEntries r
def uptoBulkEntry {H : Type} : Lit × DataW H → Nat
  | (.string bytes, d) => bytes.length + uptoBulk d + 1
  | (_, d) => uptoBulk d + 1
 end
def uptoSmall : (H : Type) → List (DataW H) → Bool := fun _ ds => decide (uptoBulkAll ds ≤ 1048576)
def OpenSpec.upto (s : _root_.Go.ChangeSpec) : _root_.Go.OpenSpec := { _root_.Go.OpenSpec.ofChange s with cond := some uptoSmall }

/-- 'foundrylaw18.LineUnits', WHERE WHAT IT READS IS OF BULK AT MOST 1048576: true; the input reads as it did. -/
def lineUnitsUptoRow : OpenClaim := { program := "ytmpmkjlkhlagfaa", sum := "5a4f3b2d5755369121793f6baaa4d40d6c2e431c13e215f92999361edc950d3f", func := "foundry/foundrylaw18.LineUnits", spec := "lineUnits", inPlace := ["internal/bytealg.IndexByteString", "internal/bytealg.IndexString", "internal/bytealg.IndexByte"], unfollowed := true, recurses := true, named := ["internal/bytealg.MaxLen"], apart := false, narrowed := true }
def LineUnitsUptoSaid : Prop := lineUnitsUptoRow.holds Try.pinned (OpenSpec.upto lineUnitsSpec)

/-- 'foundrylaw18.LineBack', WHERE WHAT IT READS IS OF BULK AT MOST 1048576: true; the input reads as it did. -/
def lineBackUptoRow : OpenClaim := { program := "ytmpmkjlkhlagfaa", sum := "5a4f3b2d5755369121793f6baaa4d40d6c2e431c13e215f92999361edc950d3f", func := "foundry/foundrylaw18.LineBack", spec := "lineBack", inPlace := ["internal/bytealg.IndexByteString", "internal/bytealg.IndexString", "internal/bytealg.IndexByte"], unfollowed := true, recurses := true, named := ["internal/bytealg.MaxLen"], apart := false, narrowed := true }
def LineBackUptoSaid : Prop := lineBackUptoRow.holds Try.pinned (OpenSpec.upto lineBackSpec)

/-- 'foundrylaw18.LineFinds', WHERE WHAT IT READS IS OF BULK AT MOST 1048576: true; the input reads as it did. -/
def lineFindsUptoRow : OpenClaim := { program := "ytmpmkjlkhlagfaa", sum := "5a4f3b2d5755369121793f6baaa4d40d6c2e431c13e215f92999361edc950d3f", func := "foundry/foundrylaw18.LineFinds", spec := "lineFinds", inPlace := ["internal/bytealg.IndexByteString", "internal/bytealg.IndexString", "internal/bytealg.IndexByte"], unfollowed := true, recurses := true, named := ["internal/bytealg.MaxLen"], apart := false, narrowed := true }
def LineFindsUptoSaid : Prop := lineFindsUptoRow.holds Try.pinned (OpenSpec.upto lineFindsSpec)

/-- 'foundrylaw18.LineMoved', WHERE WHAT IT READS IS OF BULK AT MOST 1048576: true; the input reads as it did. -/
def lineMovedUptoRow : OpenClaim := { program := "ytmpmkjlkhlagfaa", sum := "5a4f3b2d5755369121793f6baaa4d40d6c2e431c13e215f92999361edc950d3f", func := "foundry/foundrylaw18.LineMoved", spec := "lineMoved", inPlace := ["internal/bytealg.IndexByteString", "internal/bytealg.IndexString", "internal/bytealg.IndexByte"], unfollowed := true, recurses := true, named := ["internal/bytealg.MaxLen"], apart := false, narrowed := true }
def LineMovedUptoSaid : Prop := lineMovedUptoRow.holds Try.pinned (OpenSpec.upto lineMovedSpec)

/-- 'foundrylaw18.LineSpecial', WHERE WHAT IT READS IS OF BULK AT MOST 1048576: true; the input reads as it did. -/
def lineSpecialUptoRow : OpenClaim := { program := "ytmpmkjlkhlagfaa", sum := "5a4f3b2d5755369121793f6baaa4d40d6c2e431c13e215f92999361edc950d3f", func := "foundry/foundrylaw18.LineSpecial", spec := "lineSpecial", inPlace := ["internal/bytealg.IndexByteString", "internal/bytealg.IndexString", "internal/bytealg.IndexByte"], unfollowed := true, recurses := true, named := ["internal/bytealg.MaxLen"], apart := false, narrowed := true }
def LineSpecialUptoSaid : Prop := lineSpecialUptoRow.holds Try.pinned (OpenSpec.upto lineSpecialSpec)

end Rows
end Go.Proofs.Ytmpmkjlkhlagfaa
