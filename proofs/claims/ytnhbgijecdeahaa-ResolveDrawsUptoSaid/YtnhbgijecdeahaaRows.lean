/-
  No cell of these rows narrows 'for every input' (looked for: loops, veiled, ifaces, maps, wideKeys, modest, calm, conditions, laid).
  DERIVED. THE GIVEN ROWS OF THIS SEAT. 3 by the template 'for every input the law returns true; each argument reads behind the call as it read before'; 0 by the template 'total and deterministic' (their statements: YtnhbgijecdeahaaTotals.lean).
  GIVEN WITH THE SEED: the statements are not yours to turn. If you find one false, say at which input.
  Laid BY PROGRAM, IN A SANDBOX (cutbox-rows.mjs): the forced cells as the released guide's own fill.sh prints them over the translation c917de127915603e… (all of the seat's roots in one cut). By AI agents, Wed Nov 11 2026. No macro, syntax, notation, axiom, sorry.
-/
import Derived.Test.YtnhbgijecdeahaaChecked
import GoSem.Claim
import GoSem.ClaimJoined
import GoSem.ClaimMapViews
import Derived.JoinedTies
import Derived.KernelRfl
namespace Go.Proofs.Ytnhbgijecdeahaa
/- THE CELL 'sum', in the pinned program and in every row, IS THE sha256 OF THE DUMP (.gsa) THAT YtnhbgijecdeahaaProg.lean LOADS. Nothing in Lean hashes anything: it is a label: what it is worth is what the hold of that sum in a sandbox is worth. -/
noncomputable def Try.pinned : Pinned := { name := "ytnhbgijecdeahaa", sum := "c917de127915603eca22aef8389616958e4c36cb0d2f91c482f706fa3a7a0f7b", checked := Try.checked }
namespace Rows
def none {H : Type} : Left H := { results := [], args := [] }

/-- 'foundrylaw22.ResolveDraws': WHATEVER THE INPUT: true; the input reads as it did. -/
def resolveDrawsSpec : ChangeSpec := { name := "resolveDraws", fn := fun _ => fun
  | [d1, d2] => { results := [.lit (.bool true)], args := [d1, d2] }
  | _ => none }
def resolveDrawsRow : OpenClaim := { program := "ytnhbgijecdeahaa", sum := "c917de127915603eca22aef8389616958e4c36cb0d2f91c482f706fa3a7a0f7b", func := "foundry/foundrylaw22.ResolveDraws", spec := "resolveDraws", inPlace := ["slices.overlaps[foundry/table.pair[string, int64]]", "internal/bytealg.IndexByteString", "internal/bytealg.IndexString"], unfollowed := true, recurses := true, named := ["internal/bytealg.MaxLen"], plainKeys := false, apart := false }
def ResolveDrawsSaid : Prop := resolveDrawsRow.holds Try.pinned (OpenSpec.ofChange resolveDrawsSpec)

/-- ITS FALSE NEIGHBOUR: 'it returns false'. Refute it at one input. -/
def resolveDrawsWrong : ChangeSpec := { name := "resolveDraws", fn := fun _ => fun
  | [d1, d2] => { results := [.lit (.bool false)], args := [d1, d2] }
  | _ => none }
def ResolveDrawsWrongFalsely : Prop := resolveDrawsRow.holds Try.pinned (OpenSpec.ofChange resolveDrawsWrong)

/-- 'foundrylaw22.ResolveWins': WHATEVER THE INPUT: true; the input reads as it did. -/
def resolveWinsSpec : ChangeSpec := { name := "resolveWins", fn := fun _ => fun
  | [d] => { results := [.lit (.bool true)], args := [d] }
  | _ => none }
def resolveWinsRow : OpenClaim := { program := "ytnhbgijecdeahaa", sum := "c917de127915603eca22aef8389616958e4c36cb0d2f91c482f706fa3a7a0f7b", func := "foundry/foundrylaw22.ResolveWins", spec := "resolveWins", inPlace := ["slices.overlaps[foundry/table.pair[string, int64]]", "internal/bytealg.IndexByteString", "internal/bytealg.IndexString"], unfollowed := true, recurses := true, named := ["internal/bytealg.MaxLen"], plainKeys := false, apart := false }
def ResolveWinsSaid : Prop := resolveWinsRow.holds Try.pinned (OpenSpec.ofChange resolveWinsSpec)

/-- ITS FALSE NEIGHBOUR: 'it returns false'. Refute it at one input. -/
def resolveWinsWrong : ChangeSpec := { name := "resolveWins", fn := fun _ => fun
  | [d] => { results := [.lit (.bool false)], args := [d] }
  | _ => none }
def ResolveWinsWrongFalsely : Prop := resolveWinsRow.holds Try.pinned (OpenSpec.ofChange resolveWinsWrong)

/-- 'foundrylaw22.ResolveKnown': WHATEVER THE INPUT: true; the input reads as it did. -/
def resolveKnownSpec : ChangeSpec := { name := "resolveKnown", fn := fun _ => fun
  | [d1, d2] => { results := [.lit (.bool true)], args := [d1, d2] }
  | _ => none }
def resolveKnownRow : OpenClaim := { program := "ytnhbgijecdeahaa", sum := "c917de127915603eca22aef8389616958e4c36cb0d2f91c482f706fa3a7a0f7b", func := "foundry/foundrylaw22.ResolveKnown", spec := "resolveKnown", inPlace := ["slices.overlaps[foundry/table.pair[string, int64]]", "internal/bytealg.IndexByteString", "internal/bytealg.IndexString"], unfollowed := true, recurses := true, named := ["internal/bytealg.MaxLen"], plainKeys := false, apart := false }
def ResolveKnownSaid : Prop := resolveKnownRow.holds Try.pinned (OpenSpec.ofChange resolveKnownSpec)

/-- ITS FALSE NEIGHBOUR: 'it returns false'. Refute it at one input. -/
def resolveKnownWrong : ChangeSpec := { name := "resolveKnown", fn := fun _ => fun
  | [d1, d2] => { results := [.lit (.bool false)], args := [d1, d2] }
  | _ => none }
def ResolveKnownWrongFalsely : Prop := resolveKnownRow.holds Try.pinned (OpenSpec.ofChange resolveKnownWrong)

/- THE SECOND FORM. 'bulk': how many values and letters a reading holds, each counted each time it is reached (what is shared counts as often as it is met; a slice's spare places count too). A statement '..UptoSaid' is the law's where the arguments, and the package variables that the reading takes, are together of bulk at most 1048576: NARROWER than '..Said'. Prove '..Said' where nothing that the law and all that it calls make is longer than what came in: it says more and counts as full. Else prove '..UptoSaid'. A law counts once. -/
mutual
def uptoBulk {H : Type} : DataW H → Nat
  | .lit (.string bytes) => bytes.length + 1
  | .lit _ => 1
  | .nil => 1
  | .ptr d => uptoBulk d + 1
  | .slice elems spare => uptoBulkAll elems + uptoBulkAll spare + 1
  | .agg parts => uptoBulkAll parts + 1
  | .iface _ d => uptoBulk d + 1
  | .map entries => uptoBulkEntries entries + 1
  | .held _ => 1
def uptoBulkAll {H : Type} : List (DataW H) → Nat
  | [] => 0
  | d :: r => uptoBulk d + uptoBulkAll r
def uptoBulkEntries {H : Type} : List (Lit × DataW H) → Nat
  | [] => 0
  | x :: r => uptoBulkEntry x + uptoBulkEntries r
def uptoBulkEntry {H : Type} : Lit × DataW H → Nat
  | (.string bytes, d) => bytes.length + uptoBulk d + 1
  | (_, d) => uptoBulk d + 1
 end
def uptoSmall : (H : Type) → List (DataW H) → Bool := fun _ ds => decide (uptoBulkAll ds ≤ 1048576)
def OpenSpec.upto (s : _root_.Go.ChangeSpec) : _root_.Go.OpenSpec := { _root_.Go.OpenSpec.ofChange s with cond := some uptoSmall }

/-- 'foundrylaw22.ResolveDraws', WHERE WHAT IT READS IS OF BULK AT MOST 1048576: true; the input reads as it did. -/
def resolveDrawsUptoRow : OpenClaim := { program := "ytnhbgijecdeahaa", sum := "c917de127915603eca22aef8389616958e4c36cb0d2f91c482f706fa3a7a0f7b", func := "foundry/foundrylaw22.ResolveDraws", spec := "resolveDraws", inPlace := ["slices.overlaps[foundry/table.pair[string, int64]]", "internal/bytealg.IndexByteString", "internal/bytealg.IndexString"], unfollowed := true, recurses := true, named := ["internal/bytealg.MaxLen"], plainKeys := false, apart := false, narrowed := true }
def ResolveDrawsUptoSaid : Prop := resolveDrawsUptoRow.holds Try.pinned (OpenSpec.upto resolveDrawsSpec)

/-- 'foundrylaw22.ResolveWins', WHERE WHAT IT READS IS OF BULK AT MOST 1048576: true; the input reads as it did. -/
def resolveWinsUptoRow : OpenClaim := { program := "ytnhbgijecdeahaa", sum := "c917de127915603eca22aef8389616958e4c36cb0d2f91c482f706fa3a7a0f7b", func := "foundry/foundrylaw22.ResolveWins", spec := "resolveWins", inPlace := ["slices.overlaps[foundry/table.pair[string, int64]]", "internal/bytealg.IndexByteString", "internal/bytealg.IndexString"], unfollowed := true, recurses := true, named := ["internal/bytealg.MaxLen"], plainKeys := false, apart := false, narrowed := true }
def ResolveWinsUptoSaid : Prop := resolveWinsUptoRow.holds Try.pinned (OpenSpec.upto resolveWinsSpec)

/-- 'foundrylaw22.ResolveKnown', WHERE WHAT IT READS IS OF BULK AT MOST 1048576: true; the input reads as it did. -/
def resolveKnownUptoRow : OpenClaim := { program := "ytnhbgijecdeahaa", sum := "c917de127915603eca22aef8389616958e4c36cb0d2f91c482f706fa3a7a0f7b", func := "foundry/foundrylaw22.ResolveKnown", spec := "resolveKnown", inPlace := ["slices.overlaps[foundry/table.pair[string, int64]]", "internal/bytealg.IndexByteString", "internal/bytealg.IndexString"], unfollowed := true, recurses := true, named := ["internal/bytealg.MaxLen"], plainKeys := false, apart := false, narrowed := true }
def ResolveKnownUptoSaid : Prop := resolveKnownUptoRow.holds Try.pinned (OpenSpec.upto resolveKnownSpec)

end Rows
end Go.Proofs.Ytnhbgijecdeahaa
