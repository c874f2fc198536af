/-
  No cell of these rows narrows 'for every input' (looked for: loops, veiled, ifaces, maps, wideKeys, modest, calm, conditions, laid).
  DERIVED. THE GIVEN ROWS OF THIS SEAT. 3 by the template 'for every input the law returns true; each argument reads behind the call as it read before'; 0 by the template 'total and deterministic' (their statements: YtbbpeggljhkjhaaTotals.lean).
  GIVEN WITH THE SEED: the statements are not yours to turn. If you find one false, say at which input.
  Laid BY PROGRAM, IN A SANDBOX (cutbox-rows.mjs): the forced cells as the released guide's own fill.sh prints them over the translation 19dc6716ac762c7f… (all of the seat's roots in one cut). By AI agents, Wed Nov 11 2026. No macro, syntax, notation, axiom, sorry.
-/
import Derived.Test.YtbbpeggljhkjhaaChecked
import GoSem.Claim
import GoSem.ClaimJoined
import GoSem.ClaimMapViews
import Derived.JoinedTies
import Derived.KernelRfl
namespace Go.Proofs.Ytbbpeggljhkjhaa
/- THE CELL 'sum', in the pinned program and in every row, IS THE sha256 OF THE DUMP (.gsa) THAT YtbbpeggljhkjhaaProg.lean LOADS. Nothing in Lean hashes anything: it is a label: what it is worth is what the hold of that sum in a sandbox is worth. -/
noncomputable def Try.pinned : Pinned := { name := "ytbbpeggljhkjhaa", sum := "19dc6716ac762c7fce37f7d4cf539a948f02f3eac66c7ad02144fb2fb7421ad4", checked := Try.checked }
namespace Rows
def none {H : Type} : Left H := { results := [], args := [] }

/-- 'foundrylaw1.OctetLeb': WHATEVER THE INPUT: true; the input reads as it did. -/
def octetLebSpec : ChangeSpec := { name := "octetLeb", fn := fun _ => fun
  | [d1, d2, d3] => { results := [.lit (.bool true)], args := [d1, d2, d3] }
  | _ => none }
def octetLebRow : OpenClaim := { program := "ytbbpeggljhkjhaa", sum := "19dc6716ac762c7fce37f7d4cf539a948f02f3eac66c7ad02144fb2fb7421ad4", func := "foundry/foundrylaw1.OctetLeb", spec := "octetLeb", unfollowed := true, recurses := true, apart := false }
def OctetLebSaid : Prop := octetLebRow.holds Try.pinned (OpenSpec.ofChange octetLebSpec)

/-- ITS FALSE NEIGHBOUR: 'it returns false'. Refute it at one input. -/
def octetLebWrong : ChangeSpec := { name := "octetLeb", fn := fun _ => fun
  | [d1, d2, d3] => { results := [.lit (.bool false)], args := [d1, d2, d3] }
  | _ => none }
def OctetLebWrongFalsely : Prop := octetLebRow.holds Try.pinned (OpenSpec.ofChange octetLebWrong)

/-- 'foundrylaw1.OctetBack': WHATEVER THE INPUT: true; the input reads as it did. -/
def octetBackSpec : ChangeSpec := { name := "octetBack", fn := fun _ => fun
  | [d1, d2, d3] => { results := [.lit (.bool true)], args := [d1, d2, d3] }
  | _ => none }
def octetBackRow : OpenClaim := { program := "ytbbpeggljhkjhaa", sum := "19dc6716ac762c7fce37f7d4cf539a948f02f3eac66c7ad02144fb2fb7421ad4", func := "foundry/foundrylaw1.OctetBack", spec := "octetBack", unfollowed := true, recurses := true, apart := false }
def OctetBackSaid : Prop := octetBackRow.holds Try.pinned (OpenSpec.ofChange octetBackSpec)

/-- ITS FALSE NEIGHBOUR: 'it returns false'. Refute it at one input. -/
def octetBackWrong : ChangeSpec := { name := "octetBack", fn := fun _ => fun
  | [d1, d2, d3] => { results := [.lit (.bool false)], args := [d1, d2, d3] }
  | _ => none }
def OctetBackWrongFalsely : Prop := octetBackRow.holds Try.pinned (OpenSpec.ofChange octetBackWrong)

/-- 'foundrylaw1.OctetAll': WHATEVER THE INPUT: true; the input reads as it did. -/
def octetAllSpec : ChangeSpec := { name := "octetAll", fn := fun _ => fun
  | [d1, d2, d3, d4, d5, d6] => { results := [.lit (.bool true)], args := [d1, d2, d3, d4, d5, d6] }
  | _ => none }
def octetAllRow : OpenClaim := { program := "ytbbpeggljhkjhaa", sum := "19dc6716ac762c7fce37f7d4cf539a948f02f3eac66c7ad02144fb2fb7421ad4", func := "foundry/foundrylaw1.OctetAll", spec := "octetAll", inPlace := ["internal/bytealg.IndexByte"], unfollowed := true, recurses := true, apart := false }
def OctetAllSaid : Prop := octetAllRow.holds Try.pinned (OpenSpec.ofChange octetAllSpec)

/-- ITS FALSE NEIGHBOUR: 'it returns false'. Refute it at one input. -/
def octetAllWrong : ChangeSpec := { name := "octetAll", fn := fun _ => fun
  | [d1, d2, d3, d4, d5, d6] => { results := [.lit (.bool false)], args := [d1, d2, d3, d4, d5, d6] }
  | _ => none }
def OctetAllWrongFalsely : Prop := octetAllRow.holds Try.pinned (OpenSpec.ofChange octetAllWrong)

/- THE SECOND FORM. 'bulk': how many values and letters a reading holds, each counted each time it is reached (what is shared counts as often as it is met; a slice's spare places count too). A statement '..UptoSaid' is the law's where the arguments, and the package variables that the reading takes, are together of bulk at most 1048576: NARROWER than '..Said'. Prove '..Said' where nothing that the law and all that it calls make is longer than what came in: it says more and counts as full. Else prove '..UptoSaid'. A law counts once. -/
mutual
def uptoBulk {H : Type} : DataW H → Nat
  | .lit (.string bytes) => bytes.length + 1
  | .lit _ => 1
  | .nil => 1
  | .ptr d => uptoBulk d + 1
  | .slice elems spare => uptoBulkAll elems + uptoBulkAll spare + 1
  | .agg parts => uptoBulkAll parts + 1
  | .iface _ d => uptoBulk d + 1
  | .map entries => uptoBulkEntries entries + 1
  | .held _ => 1
def uptoBulkAll {H : Type} : List (DataW H) → Nat
  | [] => 0
  | d :: r => uptoBulk d + uptoBulkAll r
def uptoBulkEntries {H : Type} : List (Lit × DataW H) → Nat
  | [] => 0
  | x :: r => uptoBulkEntry x + uptoBulkEntries r
def uptoBulkEntry {H : Type} : Lit × DataW H → Nat
  | (.string bytes, d) => bytes.length + uptoBulk d + 1
  | (_, d) => uptoBulk d + 1
 end
def uptoSmall : (H : Type) → List (DataW H) → Bool := fun _ ds => decide (uptoBulkAll ds ≤ 1048576)
def OpenSpec.upto (s : _root_.Go.ChangeSpec) : _root_.Go.OpenSpec := { _root_.Go.OpenSpec.ofChange s with cond := some uptoSmall }

/-- 'foundrylaw1.OctetLeb', WHERE WHAT IT READS IS OF BULK AT MOST 1048576: true; the input reads as it did. -/
def octetLebUptoRow : OpenClaim := { program := "ytbbpeggljhkjhaa", sum := "19dc6716ac762c7fce37f7d4cf539a948f02f3eac66c7ad02144fb2fb7421ad4", func := "foundry/foundrylaw1.OctetLeb", spec := "octetLeb", unfollowed := true, recurses := true, apart := false, narrowed := true }
def OctetLebUptoSaid : Prop := octetLebUptoRow.holds Try.pinned (OpenSpec.upto octetLebSpec)

/-- 'foundrylaw1.OctetBack', WHERE WHAT IT READS IS OF BULK AT MOST 1048576: true; the input reads as it did. -/
def octetBackUptoRow : OpenClaim := { program := "ytbbpeggljhkjhaa", sum := "19dc6716ac762c7fce37f7d4cf539a948f02f3eac66c7ad02144fb2fb7421ad4", func := "foundry/foundrylaw1.OctetBack", spec := "octetBack", unfollowed := true, recurses := true, apart := false, narrowed := true }
def OctetBackUptoSaid : Prop := octetBackUptoRow.holds Try.pinned (OpenSpec.upto octetBackSpec)

/-- 'foundrylaw1.OctetAll', WHERE WHAT IT READS IS OF BULK AT MOST 1048576: true; the input reads as it did. -/
def octetAllUptoRow : OpenClaim := { program := "ytbbpeggljhkjhaa", sum := "19dc6716ac762c7fce37f7d4cf539a948f02f3eac66c7ad02144fb2fb7421ad4", func := "foundry/foundrylaw1.OctetAll", spec := "octetAll", inPlace := ["internal/bytealg.IndexByte"], unfollowed := true, recurses := true, apart := false, narrowed := true }
def OctetAllUptoSaid : Prop := octetAllUptoRow.holds Try.pinned (OpenSpec.upto octetAllSpec)

end Rows
end Go.Proofs.Ytbbpeggljhkjhaa
