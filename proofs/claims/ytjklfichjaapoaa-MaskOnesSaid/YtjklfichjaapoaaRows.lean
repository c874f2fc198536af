/-
  No cell of these rows narrows 'for every input' (looked for: loops, veiled, ifaces, maps, wideKeys, modest, calm, conditions, laid).
  DERIVED. THE GIVEN ROWS OF THIS SEAT. 4 by the template 'for every input the law returns true; each argument reads behind the call as it read before'; 0 by the template 'total and deterministic' (their statements: YtjklfichjaapoaaTotals.lean).
  GIVEN WITH THE SEED: the statements are not yours to turn. If you find one false, say at which input.
  Laid BY PROGRAM, IN A SANDBOX (cutbox-rows.mjs): the forced cells as the released guide's own fill.sh prints them over the translation 1b99b5bad2fe1553… (all of the seat's roots in one cut). By AI agents, Wed Nov 11 2026. No macro, syntax, notation, axiom, sorry.
-/
import Derived.Test.YtjklfichjaapoaaChecked
import GoSem.Claim
import GoSem.ClaimJoined
import GoSem.ClaimMapViews
import Derived.JoinedTies
import Derived.KernelRfl
namespace Go.Proofs.Ytjklfichjaapoaa
/- THE CELL 'sum', in the pinned program and in every row, IS THE sha256 OF THE DUMP (.gsa) THAT YtjklfichjaapoaaProg.lean LOADS. Nothing in Lean hashes anything: it is a label: what it is worth is what the hold of that sum in a sandbox is worth. -/
noncomputable def Try.pinned : Pinned := { name := "ytjklfichjaapoaa", sum := "1b99b5bad2fe155326cc88f1fde64ce4e1e58512b4dcbec518fac3e4022bddc6", checked := Try.checked }
namespace Rows
def none {H : Type} : Left H := { results := [], args := [] }

/-- 'foundrylaw10.MaskAll': WHATEVER THE INPUT: true; the input reads as it did. -/
def maskAllSpec : ChangeSpec := { name := "maskAll", fn := fun _ => fun
  | [d1, d2, d3, d4] => { results := [.lit (.bool true)], args := [d1, d2, d3, d4] }
  | _ => none }
def maskAllRow : OpenClaim := { program := "ytjklfichjaapoaa", sum := "1b99b5bad2fe155326cc88f1fde64ce4e1e58512b4dcbec518fac3e4022bddc6", func := "foundry/foundrylaw10.MaskAll", spec := "maskAll", recurses := true, apart := false }
def MaskAllSaid : Prop := maskAllRow.holds Try.pinned (OpenSpec.ofChange maskAllSpec)

/-- ITS FALSE NEIGHBOUR: 'it returns false'. Refute it at one input. -/
def maskAllWrong : ChangeSpec := { name := "maskAll", fn := fun _ => fun
  | [d1, d2, d3, d4] => { results := [.lit (.bool false)], args := [d1, d2, d3, d4] }
  | _ => none }
def MaskAllWrongFalsely : Prop := maskAllRow.holds Try.pinned (OpenSpec.ofChange maskAllWrong)

/-- 'foundrylaw10.MaskEach': WHATEVER THE INPUT: true; the input reads as it did. -/
def maskEachSpec : ChangeSpec := { name := "maskEach", fn := fun _ => fun
  | [d] => { results := [.lit (.bool true)], args := [d] }
  | _ => none }
def maskEachRow : OpenClaim := { program := "ytjklfichjaapoaa", sum := "1b99b5bad2fe155326cc88f1fde64ce4e1e58512b4dcbec518fac3e4022bddc6", func := "foundry/foundrylaw10.MaskEach", spec := "maskEach", recurses := true, apart := false }
def MaskEachSaid : Prop := maskEachRow.holds Try.pinned (OpenSpec.ofChange maskEachSpec)

/-- ITS FALSE NEIGHBOUR: 'it returns false'. Refute it at one input. -/
def maskEachWrong : ChangeSpec := { name := "maskEach", fn := fun _ => fun
  | [d] => { results := [.lit (.bool false)], args := [d] }
  | _ => none }
def MaskEachWrongFalsely : Prop := maskEachRow.holds Try.pinned (OpenSpec.ofChange maskEachWrong)

/-- 'foundrylaw10.MaskTurns': WHATEVER THE INPUT: true; the input reads as it did. -/
def maskTurnsSpec : ChangeSpec := { name := "maskTurns", fn := fun _ => fun
  | [d1, d2] => { results := [.lit (.bool true)], args := [d1, d2] }
  | _ => none }
def maskTurnsRow : OpenClaim := { program := "ytjklfichjaapoaa", sum := "1b99b5bad2fe155326cc88f1fde64ce4e1e58512b4dcbec518fac3e4022bddc6", func := "foundry/foundrylaw10.MaskTurns", spec := "maskTurns", recurses := true, apart := false }
def MaskTurnsSaid : Prop := maskTurnsRow.holds Try.pinned (OpenSpec.ofChange maskTurnsSpec)

/-- ITS FALSE NEIGHBOUR: 'it returns false'. Refute it at one input. -/
def maskTurnsWrong : ChangeSpec := { name := "maskTurns", fn := fun _ => fun
  | [d1, d2] => { results := [.lit (.bool false)], args := [d1, d2] }
  | _ => none }
def MaskTurnsWrongFalsely : Prop := maskTurnsRow.holds Try.pinned (OpenSpec.ofChange maskTurnsWrong)

/-- 'foundrylaw10.MaskOnes': WHATEVER THE INPUT: true; the input reads as it did. -/
def maskOnesSpec : ChangeSpec := { name := "maskOnes", fn := fun _ => fun
  | [d1, d2, d3] => { results := [.lit (.bool true)], args := [d1, d2, d3] }
  | _ => none }
def maskOnesRow : OpenClaim := { program := "ytjklfichjaapoaa", sum := "1b99b5bad2fe155326cc88f1fde64ce4e1e58512b4dcbec518fac3e4022bddc6", func := "foundry/foundrylaw10.MaskOnes", spec := "maskOnes", recurses := true, apart := false }
def MaskOnesSaid : Prop := maskOnesRow.holds Try.pinned (OpenSpec.ofChange maskOnesSpec)

/-- ITS FALSE NEIGHBOUR: 'it returns false'. Refute it at one input. -/
def maskOnesWrong : ChangeSpec := { name := "maskOnes", fn := fun _ => fun
  | [d1, d2, d3] => { results := [.lit (.bool false)], args := [d1, d2, d3] }
  | _ => none }
def MaskOnesWrongFalsely : Prop := maskOnesRow.holds Try.pinned (OpenSpec.ofChange maskOnesWrong)

/- THE SECOND FORM. 'bulk': how many values and letters a reading holds, each counted each time it is reached (what is shared counts as often as it is met; a slice's spare places count too). A statement '..UptoSaid' is the law's where the arguments, and the package variables that the reading takes, are together of bulk at most 1048576: NARROWER than '..Said'. Prove '..Said' where nothing that the law and all that it calls make is longer than what came in: it says more and counts as full. Else prove '..UptoSaid'. A law counts once. -/
mutual
def uptoBulk {H : Type} : DataW H → Nat
  | .lit (.string bytes) => bytes.length + 1
  | .lit _ => 1
  | .nil => 1
  | .ptr d => uptoBulk d + 1
  | .slice elems spare => uptoBulkAll elems + uptoBulkAll spare + 1
  | .agg parts => uptoBulkAll parts + 1
  | .iface _ d => uptoBulk d + 1
  | .map entries => uptoBulkEntries entries + 1
  | .held _ => 1
def uptoBulkAll {H : Type} : List (DataW H) → Nat
  | [] => 0
  | d :: r => uptoBulk d + uptoBulkAll r
def uptoBulkEntries {H : Type} : List (Lit × DataW H) → Nat
  | [] => 0
  | x :: r => uptoBulkEntry x + uptoBulkEntries r
def uptoBulkEntry {H : Type} : Lit × DataW H → Nat
  | (.string bytes, d) => bytes.length + uptoBulk d + 1
  | (_, d) => uptoBulk d + 1
 end
def uptoSmall : (H : Type) → List (DataW H) → Bool := fun _ ds => decide (uptoBulkAll ds ≤ 1048576)
def OpenSpec.upto (s : _root_.Go.ChangeSpec) : _root_.Go.OpenSpec := { _root_.Go.OpenSpec.ofChange s with cond := some uptoSmall }

/-- 'foundrylaw10.MaskAll', WHERE WHAT IT READS IS OF BULK AT MOST 1048576: true; the input reads as it did. -/
def maskAllUptoRow : OpenClaim := { program := "ytjklfichjaapoaa", sum := "1b99b5bad2fe155326cc88f1fde64ce4e1e58512b4dcbec518fac3e4022bddc6", func := "foundry/foundrylaw10.MaskAll", spec := "maskAll", recurses := true, apart := false, narrowed := true }
def MaskAllUptoSaid : Prop := maskAllUptoRow.holds Try.pinned (OpenSpec.upto maskAllSpec)

/-- 'foundrylaw10.MaskEach', WHERE WHAT IT READS IS OF BULK AT MOST 1048576: true; the input reads as it did. -/
def maskEachUptoRow : OpenClaim := { program := "ytjklfichjaapoaa", sum := "1b99b5bad2fe155326cc88f1fde64ce4e1e58512b4dcbec518fac3e4022bddc6", func := "foundry/foundrylaw10.MaskEach", spec := "maskEach", recurses := true, apart := false, narrowed := true }
def MaskEachUptoSaid : Prop := maskEachUptoRow.holds Try.pinned (OpenSpec.upto maskEachSpec)

/-- 'foundrylaw10.MaskTurns', WHERE WHAT IT READS IS OF BULK AT MOST 1048576: true; the input reads as it did. -/
def maskTurnsUptoRow : OpenClaim := { program := "ytjklfichjaapoaa", sum := "1b99b5bad2fe155326cc88f1fde64ce4e1e58512b4dcbec518fac3e4022bddc6", func := "foundry/foundrylaw10.MaskTurns", spec := "maskTurns", recurses := true, apart := false, narrowed := true }
def MaskTurnsUptoSaid : Prop := maskTurnsUptoRow.holds Try.pinned (OpenSpec.upto maskTurnsSpec)

/-- 'foundrylaw10.MaskOnes', WHERE WHAT IT READS IS OF BULK AT MOST 1048576: true; the input reads as it did. -/
def maskOnesUptoRow : OpenClaim := { program := "ytjklfichjaapoaa", sum := "1b99b5bad2fe155326cc88f1fde64ce4e1e58512b4dcbec518fac3e4022bddc6", func := "foundry/foundrylaw10.MaskOnes", spec := "maskOnes", recurses := true, apart := false, narrowed := true }
def MaskOnesUptoSaid : Prop := maskOnesUptoRow.holds Try.pinned (OpenSpec.upto maskOnesSpec)

end Rows
end Go.Proofs.Ytjklfichjaapoaa
