/-
  No cell of these rows narrows 'for every input' (looked for: loops, veiled, ifaces, maps, wideKeys, modest, calm, conditions, laid).
  DERIVED. THE GIVEN ROWS OF THIS SEAT. 3 by the template 'for every input the law returns true; each argument reads behind the call as it read before'; 0 by the template 'total and deterministic' (their statements: YtmpelmjhimalpaaTotals.lean).
  GIVEN WITH THE SEED: the statements are not yours to turn. If you find one false, say at which input.
  Laid BY PROGRAM, IN A SANDBOX (cutbox-rows.mjs): the forced cells as the released guide's own fill.sh prints them over the translation 37cc1f822f9bc0d8… (all of the seat's roots in one cut). By AI agents, Wed Nov 11 2026. No macro, syntax, notation, axiom, sorry.
-/
import Derived.Test.YtmpelmjhimalpaaChecked
import GoSem.Claim
import GoSem.ClaimJoined
import GoSem.ClaimMapViews
import Derived.JoinedTies
import Derived.KernelRfl
namespace Go.Proofs.Ytmpelmjhimalpaa
/- THE CELL 'sum', in the pinned program and in every row, IS THE sha256 OF THE DUMP (.gsa) THAT YtmpelmjhimalpaaProg.lean LOADS. Nothing in Lean hashes anything: it is a label: what it is worth is what the hold of that sum in a sandbox is worth. -/
noncomputable def Try.pinned : Pinned := { name := "ytmpelmjhimalpaa", sum := "37cc1f822f9bc0d841535a4c6b678c9b15f0e81f02db87d2fbde8adcf60a0900", checked := Try.checked }
namespace Rows
def none {H : Type} : Left H := { results := [], args := [] }

/-- 'foundrylaw26.LoadThread': WHATEVER THE INPUT: true; the input reads as it did. -/
def loadThreadSpec : ChangeSpec := { name := "loadThread", fn := fun _ => fun
  | [d1, d2, d3, d4] => { results := [.lit (.bool true)], args := [d1, d2, d3, d4] }
  | _ => none }
def loadThreadRow : OpenClaim := { program := "ytmpelmjhimalpaa", sum := "37cc1f822f9bc0d841535a4c6b678c9b15f0e81f02db87d2fbde8adcf60a0900", func := "foundry/foundrylaw26.LoadThread", spec := "loadThread", inPlace := ["internal/bytealg.IndexByteString", "internal/bytealg.IndexString", "internal/bytealg.IndexByte"], unfollowed := true, recurses := true, named := ["internal/bytealg.MaxLen"], apart := false }
def LoadThreadSaid : Prop := loadThreadRow.holds Try.pinned (OpenSpec.ofChange loadThreadSpec)

/-- ITS FALSE NEIGHBOUR: 'it returns false'. Refute it at one input. -/
def loadThreadWrong : ChangeSpec := { name := "loadThread", fn := fun _ => fun
  | [d1, d2, d3, d4] => { results := [.lit (.bool false)], args := [d1, d2, d3, d4] }
  | _ => none }
def LoadThreadWrongFalsely : Prop := loadThreadRow.holds Try.pinned (OpenSpec.ofChange loadThreadWrong)

/-- 'foundrylaw26.LoadZeros': WHATEVER THE INPUT: true; the input reads as it did. -/
def loadZerosSpec : ChangeSpec := { name := "loadZeros", fn := fun _ => fun
  | [d1, d2] => { results := [.lit (.bool true)], args := [d1, d2] }
  | _ => none }
def loadZerosRow : OpenClaim := { program := "ytmpelmjhimalpaa", sum := "37cc1f822f9bc0d841535a4c6b678c9b15f0e81f02db87d2fbde8adcf60a0900", func := "foundry/foundrylaw26.LoadZeros", spec := "loadZeros", inPlace := ["internal/bytealg.IndexByteString", "internal/bytealg.IndexString", "internal/bytealg.IndexByte"], unfollowed := true, recurses := true, named := ["internal/bytealg.MaxLen"], apart := false }
def LoadZerosSaid : Prop := loadZerosRow.holds Try.pinned (OpenSpec.ofChange loadZerosSpec)

/-- ITS FALSE NEIGHBOUR: 'it returns false'. Refute it at one input. -/
def loadZerosWrong : ChangeSpec := { name := "loadZeros", fn := fun _ => fun
  | [d1, d2] => { results := [.lit (.bool false)], args := [d1, d2] }
  | _ => none }
def LoadZerosWrongFalsely : Prop := loadZerosRow.holds Try.pinned (OpenSpec.ofChange loadZerosWrong)

/-- 'foundrylaw25.PagesAll': WHATEVER THE INPUT: true; the input reads as it did. -/
def pagesAllSpec : ChangeSpec := { name := "pagesAll", fn := fun _ => fun
  | [d] => { results := [.lit (.bool true)], args := [d] }
  | _ => none }
def pagesAllRow : OpenClaim := { program := "ytmpelmjhimalpaa", sum := "37cc1f822f9bc0d841535a4c6b678c9b15f0e81f02db87d2fbde8adcf60a0900", func := "foundry/foundrylaw25.PagesAll", spec := "pagesAll", apart := false }
def PagesAllSaid : Prop := pagesAllRow.holds Try.pinned (OpenSpec.ofChange pagesAllSpec)

/-- ITS FALSE NEIGHBOUR: 'it returns false'. Refute it at one input. -/
def pagesAllWrong : ChangeSpec := { name := "pagesAll", fn := fun _ => fun
  | [d] => { results := [.lit (.bool false)], args := [d] }
  | _ => none }
def PagesAllWrongFalsely : Prop := pagesAllRow.holds Try.pinned (OpenSpec.ofChange pagesAllWrong)

/- THE SECOND FORM. 'bulk': how many values and letters a reading holds, each counted each time it is reached (what is shared counts as often as it is met; a slice's spare places count too). A statement '..UptoSaid' is the law's where the arguments, and the package variables that the reading takes, are together of bulk at most 1048576: NARROWER than '..Said'. Prove '..Said' where nothing that the law and all that it calls make is longer than what came in: it says more and counts as full. Else prove '..UptoSaid'. A law counts once. -/
mutual
def uptoBulk {H : Type} : DataW H → Nat
  | .lit (.string bytes) => bytes.length + 1
  | .lit _ => 1
  | .nil => 1
  | .ptr d => uptoBulk d + 1
  | .slice elems spare => uptoBulkAll elems + uptoBulkAll spare + 1
  | .agg parts => uptoBulkAll parts + 1
  | .iface _ d => uptoBulk d + 1
  | .map entries => uptoBulkEntries entries + 1
  | .held _ => 1
def uptoBulkAll {H : Type} : List (DataW H) → Nat
  | [] => 0
  | d :: r => uptoBulk d + uptoBulkAll r
def uptoBulkEntries {H : Type} : List (Lit × DataW H) → Nat
  | [] => 0
  | x :: r => uptoBulkEntry x + uptoBulkEntries r
def uptoBulkEntry {H : Type} : Lit × DataW H → Nat
  | (.string bytes, d) => bytes.length + uptoBulk d + 1
  | (_, d) => uptoBulk d + 1
 end
def uptoSmall : (H : Type) → List (DataW H) → Bool := fun _ ds => decide (uptoBulkAll ds ≤ 1048576)
def OpenSpec.upto (s : _root_.Go.ChangeSpec) : _root_.Go.OpenSpec := { _root_.Go.OpenSpec.ofChange s with cond := some uptoSmall }

/-- 'foundrylaw26.LoadThread', WHERE WHAT IT READS IS OF BULK AT MOST 1048576: true; the input reads as it did. -/
def loadThreadUptoRow : OpenClaim := { program := "ytmpelmjhimalpaa", sum := "37cc1f822f9bc0d841535a4c6b678c9b15f0e81f02db87d2fbde8adcf60a0900", func := "foundry/foundrylaw26.LoadThread", spec := "loadThread", inPlace := ["internal/bytealg.IndexByteString", "internal/bytealg.IndexString", "internal/bytealg.IndexByte"], unfollowed := true, recurses := true, named := ["internal/bytealg.MaxLen"], apart := false, narrowed := true }
def LoadThreadUptoSaid : Prop := loadThreadUptoRow.holds Try.pinned (OpenSpec.upto loadThreadSpec)

/-- 'foundrylaw26.LoadZeros', WHERE WHAT IT READS IS OF BULK AT MOST 1048576: true; the input reads as it did. -/
def loadZerosUptoRow : OpenClaim := { program := "ytmpelmjhimalpaa", sum := "37cc1f822f9bc0d841535a4c6b678c9b15f0e81f02db87d2fbde8adcf60a0900", func := "foundry/foundrylaw26.LoadZeros", spec := "loadZeros", inPlace := ["internal/bytealg.IndexByteString", "internal/bytealg.IndexString", "internal/bytealg.IndexByte"], unfollowed := true, recurses := true, named := ["internal/bytealg.MaxLen"], apart := false, narrowed := true }
def LoadZerosUptoSaid : Prop := loadZerosUptoRow.holds Try.pinned (OpenSpec.upto loadZerosSpec)

/-- 'foundrylaw25.PagesAll', WHERE WHAT IT READS IS OF BULK AT MOST 1048576: true; the input reads as it did. -/
def pagesAllUptoRow : OpenClaim := { program := "ytmpelmjhimalpaa", sum := "37cc1f822f9bc0d841535a4c6b678c9b15f0e81f02db87d2fbde8adcf60a0900", func := "foundry/foundrylaw25.PagesAll", spec := "pagesAll", apart := false, narrowed := true }
def PagesAllUptoSaid : Prop := pagesAllUptoRow.holds Try.pinned (OpenSpec.upto pagesAllSpec)

end Rows
end Go.Proofs.Ytmpelmjhimalpaa
