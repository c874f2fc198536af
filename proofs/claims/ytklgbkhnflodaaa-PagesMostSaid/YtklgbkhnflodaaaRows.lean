/-
  No cell of these rows narrows 'for every input' (looked for: loops, veiled, ifaces, maps, wideKeys, modest, calm, conditions, laid).
  DERIVED. THE GIVEN ROWS OF THIS SEAT. 5 by the template 'for every input the law returns true; each argument reads behind the call as it read before'; 0 by the template 'total and deterministic' (their statements: YtklgbkhnflodaaaTotals.lean).
  GIVEN WITH THE SEED: the statements are not yours to turn. If you find one false, say at which input.
  Laid BY PROGRAM, IN A SANDBOX (cutbox-rows.mjs): the forced cells as the released guide's own fill.sh prints them over the translation b79121f1865fca67… (all of the seat's roots in one cut). By AI agents, Wed Nov 11 2026. No macro, syntax, notation, axiom, sorry.
-/
import Derived.Test.YtklgbkhnflodaaaChecked
import GoSem.Claim
import GoSem.ClaimJoined
import GoSem.ClaimMapViews
import Derived.JoinedTies
import Derived.KernelRfl
namespace Go.Proofs.Ytklgbkhnflodaaa
/- THE CELL 'sum', in the pinned program and in every row, IS THE sha256 OF THE DUMP (.gsa) THAT YtklgbkhnflodaaaProg.lean LOADS. Nothing in Lean hashes anything: it is a label: what it is worth is what the hold of that sum in a sandbox is worth. -/
noncomputable def Try.pinned : Pinned := { name := "ytklgbkhnflodaaa", sum := "b79121f1865fca6745bbdb4a5bdd1af09211b8da1ea2303617dfd7d31d8bd05c", checked := Try.checked }
namespace Rows
def none {H : Type} : Left H := { results := [], args := [] }

/-- 'foundrylaw25.PagesRights': WHATEVER THE INPUT: true; the input reads as it did. -/
def pagesRightsSpec : ChangeSpec := { name := "pagesRights", fn := fun _ => fun
  | [d1, d2, d3, d4] => { results := [.lit (.bool true)], args := [d1, d2, d3, d4] }
  | _ => none }
def pagesRightsRow : OpenClaim := { program := "ytklgbkhnflodaaa", sum := "b79121f1865fca6745bbdb4a5bdd1af09211b8da1ea2303617dfd7d31d8bd05c", func := "foundry/foundrylaw25.PagesRights", spec := "pagesRights", apart := false }
def PagesRightsSaid : Prop := pagesRightsRow.holds Try.pinned (OpenSpec.ofChange pagesRightsSpec)

/-- ITS FALSE NEIGHBOUR: 'it returns false'. Refute it at one input. -/
def pagesRightsWrong : ChangeSpec := { name := "pagesRights", fn := fun _ => fun
  | [d1, d2, d3, d4] => { results := [.lit (.bool false)], args := [d1, d2, d3, d4] }
  | _ => none }
def PagesRightsWrongFalsely : Prop := pagesRightsRow.holds Try.pinned (OpenSpec.ofChange pagesRightsWrong)

/-- 'foundrylaw25.PagesMost': WHATEVER THE INPUT: true; the input reads as it did. -/
def pagesMostSpec : ChangeSpec := { name := "pagesMost", fn := fun _ => fun
  | [d] => { results := [.lit (.bool true)], args := [d] }
  | _ => none }
def pagesMostRow : OpenClaim := { program := "ytklgbkhnflodaaa", sum := "b79121f1865fca6745bbdb4a5bdd1af09211b8da1ea2303617dfd7d31d8bd05c", func := "foundry/foundrylaw25.PagesMost", spec := "pagesMost", apart := false }
def PagesMostSaid : Prop := pagesMostRow.holds Try.pinned (OpenSpec.ofChange pagesMostSpec)

/-- ITS FALSE NEIGHBOUR: 'it returns false'. Refute it at one input. -/
def pagesMostWrong : ChangeSpec := { name := "pagesMost", fn := fun _ => fun
  | [d] => { results := [.lit (.bool false)], args := [d] }
  | _ => none }
def PagesMostWrongFalsely : Prop := pagesMostRow.holds Try.pinned (OpenSpec.ofChange pagesMostWrong)

/-- 'foundrylaw25.PagesStores': WHATEVER THE INPUT: true; the input reads as it did. -/
def pagesStoresSpec : ChangeSpec := { name := "pagesStores", fn := fun _ => fun
  | [d1, d2, d3] => { results := [.lit (.bool true)], args := [d1, d2, d3] }
  | _ => none }
def pagesStoresRow : OpenClaim := { program := "ytklgbkhnflodaaa", sum := "b79121f1865fca6745bbdb4a5bdd1af09211b8da1ea2303617dfd7d31d8bd05c", func := "foundry/foundrylaw25.PagesStores", spec := "pagesStores", apart := false }
def PagesStoresSaid : Prop := pagesStoresRow.holds Try.pinned (OpenSpec.ofChange pagesStoresSpec)

/-- ITS FALSE NEIGHBOUR: 'it returns false'. Refute it at one input. -/
def pagesStoresWrong : ChangeSpec := { name := "pagesStores", fn := fun _ => fun
  | [d1, d2, d3] => { results := [.lit (.bool false)], args := [d1, d2, d3] }
  | _ => none }
def PagesStoresWrongFalsely : Prop := pagesStoresRow.holds Try.pinned (OpenSpec.ofChange pagesStoresWrong)

/-- 'foundrylaw25.PagesAll': WHATEVER THE INPUT: true; the input reads as it did. -/
def pagesAllSpec : ChangeSpec := { name := "pagesAll", fn := fun _ => fun
  | [d] => { results := [.lit (.bool true)], args := [d] }
  | _ => none }
def pagesAllRow : OpenClaim := { program := "ytklgbkhnflodaaa", sum := "b79121f1865fca6745bbdb4a5bdd1af09211b8da1ea2303617dfd7d31d8bd05c", func := "foundry/foundrylaw25.PagesAll", spec := "pagesAll", apart := false }
def PagesAllSaid : Prop := pagesAllRow.holds Try.pinned (OpenSpec.ofChange pagesAllSpec)

/-- ITS FALSE NEIGHBOUR: 'it returns false'. Refute it at one input. -/
def pagesAllWrong : ChangeSpec := { name := "pagesAll", fn := fun _ => fun
  | [d] => { results := [.lit (.bool false)], args := [d] }
  | _ => none }
def PagesAllWrongFalsely : Prop := pagesAllRow.holds Try.pinned (OpenSpec.ofChange pagesAllWrong)

/-- 'foundrylaw25.PagesNone': WHATEVER THE INPUT: true; the input reads as it did. -/
def pagesNoneSpec : ChangeSpec := { name := "pagesNone", fn := fun _ => fun
  | [d] => { results := [.lit (.bool true)], args := [d] }
  | _ => none }
def pagesNoneRow : OpenClaim := { program := "ytklgbkhnflodaaa", sum := "b79121f1865fca6745bbdb4a5bdd1af09211b8da1ea2303617dfd7d31d8bd05c", func := "foundry/foundrylaw25.PagesNone", spec := "pagesNone", apart := false }
def PagesNoneSaid : Prop := pagesNoneRow.holds Try.pinned (OpenSpec.ofChange pagesNoneSpec)

/-- ITS FALSE NEIGHBOUR: 'it returns false'. Refute it at one input. -/
def pagesNoneWrong : ChangeSpec := { name := "pagesNone", fn := fun _ => fun
  | [d] => { results := [.lit (.bool false)], args := [d] }
  | _ => none }
def PagesNoneWrongFalsely : Prop := pagesNoneRow.holds Try.pinned (OpenSpec.ofChange pagesNoneWrong)

/- THE SECOND FORM. 'bulk': how many values and letters a reading holds, each counted each time it is reached (what is shared counts as often as it is met; a slice's spare places count too). A statement '..UptoSaid' is the law's where the arguments, and the package variables that the reading takes, are together of bulk at most 1048576: NARROWER than '..Said'. Prove '..Said' where nothing that the law and all that it calls make is longer than what came in: it says more and counts as full. Else prove '..UptoSaid'. A law counts once. -/
mutual
def uptoBulk {H : Type} : DataW H → Nat
  | .lit (.string bytes) => bytes.length + 1
  | .lit _ => 1
  | .nil => 1
  | .ptr d => uptoBulk d + 1
  | .slice elems spare => uptoBulkAll elems + uptoBulkAll spare + 1
  | .agg parts => uptoBulkAll parts + 1
  | .iface _ d => uptoBulk d + 1
  | .map entries => uptoBulkEntries entries + 1
  | .held _ => 1
def uptoBulkAll {H : Type} : List (DataW H) → Nat
  | [] => 0
  | d :: r => uptoBulk d + uptoBulkAll r
def uptoBulkEntries {H : Type} : List (Lit × DataW H) → Nat
  | [] => 0
  | x :: r => uptoBulkEntry x + uptoBulkEntries r
def uptoBulkEntry {H : Type} : Lit × DataW H → Nat
  | (.string bytes, d) => bytes.length + uptoBulk d + 1
  | (_, d) => uptoBulk d + 1
 end
def uptoSmall : (H : Type) → List (DataW H) → Bool := fun _ ds => decide (uptoBulkAll ds ≤ 1048576)
def OpenSpec.upto (s : _root_.Go.ChangeSpec) : _root_.Go.OpenSpec := { _root_.Go.OpenSpec.ofChange s with cond := some uptoSmall }

/-- 'foundrylaw25.PagesRights', WHERE WHAT IT READS IS OF BULK AT MOST 1048576: true; the input reads as it did. -/
def pagesRightsUptoRow : OpenClaim := { program := "ytklgbkhnflodaaa", sum := "b79121f1865fca6745bbdb4a5bdd1af09211b8da1ea2303617dfd7d31d8bd05c", func := "foundry/foundrylaw25.PagesRights", spec := "pagesRights", apart := false, narrowed := true }
def PagesRightsUptoSaid : Prop := pagesRightsUptoRow.holds Try.pinned (OpenSpec.upto pagesRightsSpec)

/-- 'foundrylaw25.PagesMost', WHERE WHAT IT READS IS OF BULK AT MOST 1048576: true; the input reads as it did. -/
def pagesMostUptoRow : OpenClaim := { program := "ytklgbkhnflodaaa", sum := "b79121f1865fca6745bbdb4a5bdd1af09211b8da1ea2303617dfd7d31d8bd05c", func := "foundry/foundrylaw25.PagesMost", spec := "pagesMost", apart := false, narrowed := true }
def PagesMostUptoSaid : Prop := pagesMostUptoRow.holds Try.pinned (OpenSpec.upto pagesMostSpec)

/-- 'foundrylaw25.PagesStores', WHERE WHAT IT READS IS OF BULK AT MOST 1048576: true; the input reads as it did. -/
def pagesStoresUptoRow : OpenClaim := { program := "ytklgbkhnflodaaa", sum := "b79121f1865fca6745bbdb4a5bdd1af09211b8da1ea2303617dfd7d31d8bd05c", func := "foundry/foundrylaw25.PagesStores", spec := "pagesStores", apart := false, narrowed := true }
def PagesStoresUptoSaid : Prop := pagesStoresUptoRow.holds Try.pinned (OpenSpec.upto pagesStoresSpec)

/-- 'foundrylaw25.PagesAll', WHERE WHAT IT READS IS OF BULK AT MOST 1048576: true; the input reads as it did. -/
def pagesAllUptoRow : OpenClaim := { program := "ytklgbkhnflodaaa", sum := "b79121f1865fca6745bbdb4a5bdd1af09211b8da1ea2303617dfd7d31d8bd05c", func := "foundry/foundrylaw25.PagesAll", spec := "pagesAll", apart := false, narrowed := true }
def PagesAllUptoSaid : Prop := pagesAllUptoRow.holds Try.pinned (OpenSpec.upto pagesAllSpec)

/-- 'foundrylaw25.PagesNone', WHERE WHAT IT READS IS OF BULK AT MOST 1048576: true; the input reads as it did. -/
def pagesNoneUptoRow : OpenClaim := { program := "ytklgbkhnflodaaa", sum := "b79121f1865fca6745bbdb4a5bdd1af09211b8da1ea2303617dfd7d31d8bd05c", func := "foundry/foundrylaw25.PagesNone", spec := "pagesNone", apart := false, narrowed := true }
def PagesNoneUptoSaid : Prop := pagesNoneUptoRow.holds Try.pinned (OpenSpec.upto pagesNoneSpec)

end Rows
end Go.Proofs.Ytklgbkhnflodaaa
