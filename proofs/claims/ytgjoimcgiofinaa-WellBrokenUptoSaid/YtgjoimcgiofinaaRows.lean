/-
  No cell of these rows narrows 'for every input' (looked for: loops, veiled, ifaces, maps, wideKeys, modest, calm, conditions, laid).
  DERIVED. THE GIVEN ROWS OF THIS SEAT. 12 by the template 'for every input the law returns true; each argument reads behind the call as it read before'; 0 by the template 'total and deterministic' (their statements: YtgjoimcgiofinaaTotals.lean).
  GIVEN WITH THE SEED: the statements are not yours to turn. If you find one false, say at which input.
  Laid BY PROGRAM, IN A SANDBOX (cutbox-rows.mjs): the forced cells as the released guide's own fill.sh prints them over the translation 621992c5fc0052e3… (all of the seat's roots in one cut). By AI agents, Wed Nov 11 2026. No macro, syntax, notation, axiom, sorry.
-/
import Derived.Test.YtgjoimcgiofinaaChecked
import GoSem.Claim
import GoSem.ClaimJoined
import GoSem.ClaimMapViews
import Derived.JoinedTies
import Derived.KernelRfl
namespace Go.Proofs.Ytgjoimcgiofinaa
/- THE CELL 'sum', in the pinned program and in every row, IS THE sha256 OF THE DUMP (.gsa) THAT YtgjoimcgiofinaaProg.lean LOADS. Nothing in Lean hashes anything: it is a label: what it is worth is what the hold of that sum in a sandbox is worth. -/
noncomputable def Try.pinned : Pinned := { name := "ytgjoimcgiofinaa", sum := "621992c5fc0052e315a61a8454ae5c81877ec156c5ac86447d0cfb6cb5ec6d5f", checked := Try.checked }
namespace Rows
def none {H : Type} : Left H := { results := [], args := [] }

/-- 'foundrylaw3.StrsAll': WHATEVER THE INPUT: true; the input reads as it did. -/
def strsAllSpec : ChangeSpec := { name := "strsAll", fn := fun _ => fun
  | [d1, d2, d3, d4] => { results := [.lit (.bool true)], args := [d1, d2, d3, d4] }
  | _ => none }
def strsAllRow : OpenClaim := { program := "ytgjoimcgiofinaa", sum := "621992c5fc0052e315a61a8454ae5c81877ec156c5ac86447d0cfb6cb5ec6d5f", func := "foundry/foundrylaw3.StrsAll", spec := "strsAll", inPlace := ["internal/bytealg.IndexByteString", "internal/bytealg.IndexString", "internal/bytealg.IndexByte", "internal/bytealg.Index"], named := ["internal/bytealg.MaxLen"], apart := false }
def StrsAllSaid : Prop := strsAllRow.holds Try.pinned (OpenSpec.ofChange strsAllSpec)

/-- ITS FALSE NEIGHBOUR: 'it returns false'. Refute it at one input. -/
def strsAllWrong : ChangeSpec := { name := "strsAll", fn := fun _ => fun
  | [d1, d2, d3, d4] => { results := [.lit (.bool false)], args := [d1, d2, d3, d4] }
  | _ => none }
def StrsAllWrongFalsely : Prop := strsAllRow.holds Try.pinned (OpenSpec.ofChange strsAllWrong)

/-- 'foundrylaw3.StrsBack': WHATEVER THE INPUT: true; the input reads as it did. -/
def strsBackSpec : ChangeSpec := { name := "strsBack", fn := fun _ => fun
  | [d] => { results := [.lit (.bool true)], args := [d] }
  | _ => none }
def strsBackRow : OpenClaim := { program := "ytgjoimcgiofinaa", sum := "621992c5fc0052e315a61a8454ae5c81877ec156c5ac86447d0cfb6cb5ec6d5f", func := "foundry/foundrylaw3.StrsBack", spec := "strsBack", inPlace := ["internal/bytealg.IndexByteString", "internal/bytealg.IndexString", "internal/bytealg.IndexByte", "internal/bytealg.Index"], named := ["internal/bytealg.MaxLen"], apart := false }
def StrsBackSaid : Prop := strsBackRow.holds Try.pinned (OpenSpec.ofChange strsBackSpec)

/-- ITS FALSE NEIGHBOUR: 'it returns false'. Refute it at one input. -/
def strsBackWrong : ChangeSpec := { name := "strsBack", fn := fun _ => fun
  | [d] => { results := [.lit (.bool false)], args := [d] }
  | _ => none }
def StrsBackWrongFalsely : Prop := strsBackRow.holds Try.pinned (OpenSpec.ofChange strsBackWrong)

/-- 'foundrylaw5.SymsWrite': WHATEVER THE INPUT: true; the input reads as it did. -/
def symsWriteSpec : ChangeSpec := { name := "symsWrite", fn := fun _ => fun
  | [d1, d2] => { results := [.lit (.bool true)], args := [d1, d2] }
  | _ => none }
def symsWriteRow : OpenClaim := { program := "ytgjoimcgiofinaa", sum := "621992c5fc0052e315a61a8454ae5c81877ec156c5ac86447d0cfb6cb5ec6d5f", func := "foundry/foundrylaw5.SymsWrite", spec := "symsWrite", inPlace := ["internal/bytealg.IndexByteString", "internal/bytealg.IndexString", "internal/bytealg.IndexByte"], named := ["internal/bytealg.MaxLen"], apart := false }
def SymsWriteSaid : Prop := symsWriteRow.holds Try.pinned (OpenSpec.ofChange symsWriteSpec)

/-- ITS FALSE NEIGHBOUR: 'it returns false'. Refute it at one input. -/
def symsWriteWrong : ChangeSpec := { name := "symsWrite", fn := fun _ => fun
  | [d1, d2] => { results := [.lit (.bool false)], args := [d1, d2] }
  | _ => none }
def SymsWriteWrongFalsely : Prop := symsWriteRow.holds Try.pinned (OpenSpec.ofChange symsWriteWrong)

/-- 'foundrylaw5.SymsRead': WHATEVER THE INPUT: true; the input reads as it did. -/
def symsReadSpec : ChangeSpec := { name := "symsRead", fn := fun _ => fun
  | [d1, d2, d3] => { results := [.lit (.bool true)], args := [d1, d2, d3] }
  | _ => none }
def symsReadRow : OpenClaim := { program := "ytgjoimcgiofinaa", sum := "621992c5fc0052e315a61a8454ae5c81877ec156c5ac86447d0cfb6cb5ec6d5f", func := "foundry/foundrylaw5.SymsRead", spec := "symsRead", inPlace := ["internal/bytealg.IndexByteString", "internal/bytealg.IndexString", "internal/bytealg.IndexByte"], named := ["internal/bytealg.MaxLen"], apart := false }
def SymsReadSaid : Prop := symsReadRow.holds Try.pinned (OpenSpec.ofChange symsReadSpec)

/-- ITS FALSE NEIGHBOUR: 'it returns false'. Refute it at one input. -/
def symsReadWrong : ChangeSpec := { name := "symsRead", fn := fun _ => fun
  | [d1, d2, d3] => { results := [.lit (.bool false)], args := [d1, d2, d3] }
  | _ => none }
def SymsReadWrongFalsely : Prop := symsReadRow.holds Try.pinned (OpenSpec.ofChange symsReadWrong)

/-- 'foundrylaw5.SymsBack': WHATEVER THE INPUT: true; the input reads as it did. -/
def symsBackSpec : ChangeSpec := { name := "symsBack", fn := fun _ => fun
  | [d1, d2, d3] => { results := [.lit (.bool true)], args := [d1, d2, d3] }
  | _ => none }
def symsBackRow : OpenClaim := { program := "ytgjoimcgiofinaa", sum := "621992c5fc0052e315a61a8454ae5c81877ec156c5ac86447d0cfb6cb5ec6d5f", func := "foundry/foundrylaw5.SymsBack", spec := "symsBack", inPlace := ["internal/bytealg.IndexByteString", "internal/bytealg.IndexString", "internal/bytealg.IndexByte"], named := ["internal/bytealg.MaxLen"], apart := false }
def SymsBackSaid : Prop := symsBackRow.holds Try.pinned (OpenSpec.ofChange symsBackSpec)

/-- ITS FALSE NEIGHBOUR: 'it returns false'. Refute it at one input. -/
def symsBackWrong : ChangeSpec := { name := "symsBack", fn := fun _ => fun
  | [d1, d2, d3] => { results := [.lit (.bool false)], args := [d1, d2, d3] }
  | _ => none }
def SymsBackWrongFalsely : Prop := symsBackRow.holds Try.pinned (OpenSpec.ofChange symsBackWrong)

/-- 'foundrylaw6.WellWritten': WHATEVER THE INPUT: true; the input reads as it did. -/
def wellWrittenSpec : ChangeSpec := { name := "wellWritten", fn := fun _ => fun
  | [d] => { results := [.lit (.bool true)], args := [d] }
  | _ => none }
def wellWrittenRow : OpenClaim := { program := "ytgjoimcgiofinaa", sum := "621992c5fc0052e315a61a8454ae5c81877ec156c5ac86447d0cfb6cb5ec6d5f", func := "foundry/foundrylaw6.WellWritten", spec := "wellWritten", inPlace := ["internal/bytealg.IndexByteString", "internal/bytealg.IndexString", "internal/bytealg.IndexByte"], unfollowed := true, recurses := true, named := ["internal/bytealg.MaxLen"], apart := false }
def WellWrittenSaid : Prop := wellWrittenRow.holds Try.pinned (OpenSpec.ofChange wellWrittenSpec)

/-- ITS FALSE NEIGHBOUR: 'it returns false'. Refute it at one input. -/
def wellWrittenWrong : ChangeSpec := { name := "wellWritten", fn := fun _ => fun
  | [d] => { results := [.lit (.bool false)], args := [d] }
  | _ => none }
def WellWrittenWrongFalsely : Prop := wellWrittenRow.holds Try.pinned (OpenSpec.ofChange wellWrittenWrong)

/-- 'foundrylaw6.WellBroken': WHATEVER THE INPUT: true; the input reads as it did. -/
def wellBrokenSpec : ChangeSpec := { name := "wellBroken", fn := fun _ => fun
  | [d1, d2] => { results := [.lit (.bool true)], args := [d1, d2] }
  | _ => none }
def wellBrokenRow : OpenClaim := { program := "ytgjoimcgiofinaa", sum := "621992c5fc0052e315a61a8454ae5c81877ec156c5ac86447d0cfb6cb5ec6d5f", func := "foundry/foundrylaw6.WellBroken", spec := "wellBroken", inPlace := ["internal/bytealg.IndexByteString", "internal/bytealg.IndexString", "internal/bytealg.IndexByte"], unfollowed := true, recurses := true, named := ["internal/bytealg.MaxLen"], apart := false }
def WellBrokenSaid : Prop := wellBrokenRow.holds Try.pinned (OpenSpec.ofChange wellBrokenSpec)

/-- ITS FALSE NEIGHBOUR: 'it returns false'. Refute it at one input. -/
def wellBrokenWrong : ChangeSpec := { name := "wellBroken", fn := fun _ => fun
  | [d1, d2] => { results := [.lit (.bool false)], args := [d1, d2] }
  | _ => none }
def WellBrokenWrongFalsely : Prop := wellBrokenRow.holds Try.pinned (OpenSpec.ofChange wellBrokenWrong)

/-- 'foundrylaw4.ElfWrites': WHATEVER THE INPUT: true; the input reads as it did. -/
def elfWritesSpec : ChangeSpec := { name := "elfWrites", fn := fun _ => fun
  | [d1, d2] => { results := [.lit (.bool true)], args := [d1, d2] }
  | _ => none }
def elfWritesRow : OpenClaim := { program := "ytgjoimcgiofinaa", sum := "621992c5fc0052e315a61a8454ae5c81877ec156c5ac86447d0cfb6cb5ec6d5f", func := "foundry/foundrylaw4.ElfWrites", spec := "elfWrites", inPlace := ["internal/bytealg.IndexByteString", "internal/bytealg.IndexString", "internal/bytealg.IndexByte"], unfollowed := true, recurses := true, named := ["internal/bytealg.MaxLen"], apart := false }
def ElfWritesSaid : Prop := elfWritesRow.holds Try.pinned (OpenSpec.ofChange elfWritesSpec)

/-- ITS FALSE NEIGHBOUR: 'it returns false'. Refute it at one input. -/
def elfWritesWrong : ChangeSpec := { name := "elfWrites", fn := fun _ => fun
  | [d1, d2] => { results := [.lit (.bool false)], args := [d1, d2] }
  | _ => none }
def ElfWritesWrongFalsely : Prop := elfWritesRow.holds Try.pinned (OpenSpec.ofChange elfWritesWrong)

/-- 'foundrylaw4.ElfReads': WHATEVER THE INPUT: true; the input reads as it did. -/
def elfReadsSpec : ChangeSpec := { name := "elfReads", fn := fun _ => fun
  | [d] => { results := [.lit (.bool true)], args := [d] }
  | _ => none }
def elfReadsRow : OpenClaim := { program := "ytgjoimcgiofinaa", sum := "621992c5fc0052e315a61a8454ae5c81877ec156c5ac86447d0cfb6cb5ec6d5f", func := "foundry/foundrylaw4.ElfReads", spec := "elfReads", inPlace := ["internal/bytealg.IndexByteString", "internal/bytealg.IndexString", "internal/bytealg.IndexByte"], unfollowed := true, recurses := true, named := ["internal/bytealg.MaxLen"], apart := false }
def ElfReadsSaid : Prop := elfReadsRow.holds Try.pinned (OpenSpec.ofChange elfReadsSpec)

/-- ITS FALSE NEIGHBOUR: 'it returns false'. Refute it at one input. -/
def elfReadsWrong : ChangeSpec := { name := "elfReads", fn := fun _ => fun
  | [d] => { results := [.lit (.bool false)], args := [d] }
  | _ => none }
def ElfReadsWrongFalsely : Prop := elfReadsRow.holds Try.pinned (OpenSpec.ofChange elfReadsWrong)

/-- 'foundrylaw4.ElfBack': WHATEVER THE INPUT: true; the input reads as it did. -/
def elfBackSpec : ChangeSpec := { name := "elfBack", fn := fun _ => fun
  | [d] => { results := [.lit (.bool true)], args := [d] }
  | _ => none }
def elfBackRow : OpenClaim := { program := "ytgjoimcgiofinaa", sum := "621992c5fc0052e315a61a8454ae5c81877ec156c5ac86447d0cfb6cb5ec6d5f", func := "foundry/foundrylaw4.ElfBack", spec := "elfBack", inPlace := ["internal/bytealg.IndexByteString", "internal/bytealg.IndexString", "internal/bytealg.IndexByte"], unfollowed := true, recurses := true, named := ["internal/bytealg.MaxLen"], apart := false }
def ElfBackSaid : Prop := elfBackRow.holds Try.pinned (OpenSpec.ofChange elfBackSpec)

/-- ITS FALSE NEIGHBOUR: 'it returns false'. Refute it at one input. -/
def elfBackWrong : ChangeSpec := { name := "elfBack", fn := fun _ => fun
  | [d] => { results := [.lit (.bool false)], args := [d] }
  | _ => none }
def ElfBackWrongFalsely : Prop := elfBackRow.holds Try.pinned (OpenSpec.ofChange elfBackWrong)

/-- 'foundrylaw4.ElfPlaces': WHATEVER THE INPUT: true; the input reads as it did. -/
def elfPlacesSpec : ChangeSpec := { name := "elfPlaces", fn := fun _ => fun
  | [d] => { results := [.lit (.bool true)], args := [d] }
  | _ => none }
def elfPlacesRow : OpenClaim := { program := "ytgjoimcgiofinaa", sum := "621992c5fc0052e315a61a8454ae5c81877ec156c5ac86447d0cfb6cb5ec6d5f", func := "foundry/foundrylaw4.ElfPlaces", spec := "elfPlaces", inPlace := ["internal/bytealg.IndexByteString", "internal/bytealg.IndexString", "internal/bytealg.IndexByte"], unfollowed := true, recurses := true, named := ["internal/bytealg.MaxLen"], apart := false }
def ElfPlacesSaid : Prop := elfPlacesRow.holds Try.pinned (OpenSpec.ofChange elfPlacesSpec)

/-- ITS FALSE NEIGHBOUR: 'it returns false'. Refute it at one input. -/
def elfPlacesWrong : ChangeSpec := { name := "elfPlaces", fn := fun _ => fun
  | [d] => { results := [.lit (.bool false)], args := [d] }
  | _ => none }
def ElfPlacesWrongFalsely : Prop := elfPlacesRow.holds Try.pinned (OpenSpec.ofChange elfPlacesWrong)

/-- 'foundrylaw4.ElfOne': WHATEVER THE INPUT: true; the input reads as it did. -/
def elfOneSpec : ChangeSpec := { name := "elfOne", fn := fun _ => fun
  | [d1, d2] => { results := [.lit (.bool true)], args := [d1, d2] }
  | _ => none }
def elfOneRow : OpenClaim := { program := "ytgjoimcgiofinaa", sum := "621992c5fc0052e315a61a8454ae5c81877ec156c5ac86447d0cfb6cb5ec6d5f", func := "foundry/foundrylaw4.ElfOne", spec := "elfOne", inPlace := ["internal/bytealg.IndexByteString", "internal/bytealg.IndexString", "internal/bytealg.IndexByte"], unfollowed := true, recurses := true, named := ["internal/bytealg.MaxLen"], apart := false }
def ElfOneSaid : Prop := elfOneRow.holds Try.pinned (OpenSpec.ofChange elfOneSpec)

/-- ITS FALSE NEIGHBOUR: 'it returns false'. Refute it at one input. -/
def elfOneWrong : ChangeSpec := { name := "elfOne", fn := fun _ => fun
  | [d1, d2] => { results := [.lit (.bool false)], args := [d1, d2] }
  | _ => none }
def ElfOneWrongFalsely : Prop := elfOneRow.holds Try.pinned (OpenSpec.ofChange elfOneWrong)

/- THE SECOND FORM. 'bulk': how many values and letters a reading holds, each counted each time it is reached (what is shared counts as often as it is met; a slice's spare places count too). A statement '..UptoSaid' is the law's where the arguments, and the package variables that the reading takes, are together of bulk at most 1048576: NARROWER than '..Said'. Prove '..Said' where nothing that the law and all that it calls make is longer than what came in: it says more and counts as full. Else prove '..UptoSaid'. A law counts once. -/
mutual
def uptoBulk {H : Type} : DataW H → Nat
  | .lit (.string bytes) => bytes.length + 1
  | .lit _ => 1
  | .nil => 1
  | .ptr d => uptoBulk d + 1
  | .slice elems spare => uptoBulkAll elems + uptoBulkAll spare + 1
  | .agg parts => uptoBulkAll parts + 1
  | .iface _ d => uptoBulk d + 1
  | .map entries => uptoBulkEntries entries + 1
  | .held _ => 1
def uptoBulkAll {H : Type} : List (DataW H) → Nat
  | [] => 0
  | d :: r => uptoBulk d + uptoBulkAll r
def uptoBulkEntries {H : Type} : List (Lit × DataW H) → Nat
  | [] => 0
  | x :: r => uptoBulkEntry x + uptoBulkEntries r
def uptoBulkEntry {H : Type} : Lit × DataW H → Nat
  | (.string bytes, d) => bytes.length + uptoBulk d + 1
  | (_, d) => uptoBulk d + 1
 end
def uptoSmall : (H : Type) → List (DataW H) → Bool := fun _ ds => decide (uptoBulkAll ds ≤ 1048576)
def OpenSpec.upto (s : _root_.Go.ChangeSpec) : _root_.Go.OpenSpec := { _root_.Go.OpenSpec.ofChange s with cond := some uptoSmall }

/-- 'foundrylaw3.StrsAll', WHERE WHAT IT READS IS OF BULK AT MOST 1048576: true; the input reads as it did. -/
def strsAllUptoRow : OpenClaim := { program := "ytgjoimcgiofinaa", sum := "621992c5fc0052e315a61a8454ae5c81877ec156c5ac86447d0cfb6cb5ec6d5f", func := "foundry/foundrylaw3.StrsAll", spec := "strsAll", inPlace := ["internal/bytealg.IndexByteString", "internal/bytealg.IndexString", "internal/bytealg.IndexByte", "internal/bytealg.Index"], named := ["internal/bytealg.MaxLen"], apart := false, narrowed := true }
def StrsAllUptoSaid : Prop := strsAllUptoRow.holds Try.pinned (OpenSpec.upto strsAllSpec)

/-- 'foundrylaw3.StrsBack', WHERE WHAT IT READS IS OF BULK AT MOST 1048576: true; the input reads as it did. -/
def strsBackUptoRow : OpenClaim := { program := "ytgjoimcgiofinaa", sum := "621992c5fc0052e315a61a8454ae5c81877ec156c5ac86447d0cfb6cb5ec6d5f", func := "foundry/foundrylaw3.StrsBack", spec := "strsBack", inPlace := ["internal/bytealg.IndexByteString", "internal/bytealg.IndexString", "internal/bytealg.IndexByte", "internal/bytealg.Index"], named := ["internal/bytealg.MaxLen"], apart := false, narrowed := true }
def StrsBackUptoSaid : Prop := strsBackUptoRow.holds Try.pinned (OpenSpec.upto strsBackSpec)

/-- 'foundrylaw5.SymsWrite', WHERE WHAT IT READS IS OF BULK AT MOST 1048576: true; the input reads as it did. -/
def symsWriteUptoRow : OpenClaim := { program := "ytgjoimcgiofinaa", sum := "621992c5fc0052e315a61a8454ae5c81877ec156c5ac86447d0cfb6cb5ec6d5f", func := "foundry/foundrylaw5.SymsWrite", spec := "symsWrite", inPlace := ["internal/bytealg.IndexByteString", "internal/bytealg.IndexString", "internal/bytealg.IndexByte"], named := ["internal/bytealg.MaxLen"], apart := false, narrowed := true }
def SymsWriteUptoSaid : Prop := symsWriteUptoRow.holds Try.pinned (OpenSpec.upto symsWriteSpec)

/-- 'foundrylaw5.SymsRead', WHERE WHAT IT READS IS OF BULK AT MOST 1048576: true; the input reads as it did. -/
def symsReadUptoRow : OpenClaim := { program := "ytgjoimcgiofinaa", sum := "621992c5fc0052e315a61a8454ae5c81877ec156c5ac86447d0cfb6cb5ec6d5f", func := "foundry/foundrylaw5.SymsRead", spec := "symsRead", inPlace := ["internal/bytealg.IndexByteString", "internal/bytealg.IndexString", "internal/bytealg.IndexByte"], named := ["internal/bytealg.MaxLen"], apart := false, narrowed := true }
def SymsReadUptoSaid : Prop := symsReadUptoRow.holds Try.pinned (OpenSpec.upto symsReadSpec)

/-- 'foundrylaw5.SymsBack', WHERE WHAT IT READS IS OF BULK AT MOST 1048576: true; the input reads as it did. -/
def symsBackUptoRow : OpenClaim := { program := "ytgjoimcgiofinaa", sum := "621992c5fc0052e315a61a8454ae5c81877ec156c5ac86447d0cfb6cb5ec6d5f", func := "foundry/foundrylaw5.SymsBack", spec := "symsBack", inPlace := ["internal/bytealg.IndexByteString", "internal/bytealg.IndexString", "internal/bytealg.IndexByte"], named := ["internal/bytealg.MaxLen"], apart := false, narrowed := true }
def SymsBackUptoSaid : Prop := symsBackUptoRow.holds Try.pinned (OpenSpec.upto symsBackSpec)

/-- 'foundrylaw6.WellWritten', WHERE WHAT IT READS IS OF BULK AT MOST 1048576: true; the input reads as it did. -/
def wellWrittenUptoRow : OpenClaim := { program := "ytgjoimcgiofinaa", sum := "621992c5fc0052e315a61a8454ae5c81877ec156c5ac86447d0cfb6cb5ec6d5f", func := "foundry/foundrylaw6.WellWritten", spec := "wellWritten", inPlace := ["internal/bytealg.IndexByteString", "internal/bytealg.IndexString", "internal/bytealg.IndexByte"], unfollowed := true, recurses := true, named := ["internal/bytealg.MaxLen"], apart := false, narrowed := true }
def WellWrittenUptoSaid : Prop := wellWrittenUptoRow.holds Try.pinned (OpenSpec.upto wellWrittenSpec)

/-- 'foundrylaw6.WellBroken', WHERE WHAT IT READS IS OF BULK AT MOST 1048576: true; the input reads as it did. -/
def wellBrokenUptoRow : OpenClaim := { program := "ytgjoimcgiofinaa", sum := "621992c5fc0052e315a61a8454ae5c81877ec156c5ac86447d0cfb6cb5ec6d5f", func := "foundry/foundrylaw6.WellBroken", spec := "wellBroken", inPlace := ["internal/bytealg.IndexByteString", "internal/bytealg.IndexString", "internal/bytealg.IndexByte"], unfollowed := true, recurses := true, named := ["internal/bytealg.MaxLen"], apart := false, narrowed := true }
def WellBrokenUptoSaid : Prop := wellBrokenUptoRow.holds Try.pinned (OpenSpec.upto wellBrokenSpec)

/-- 'foundrylaw4.ElfWrites', WHERE WHAT IT READS IS OF BULK AT MOST 1048576: true; the input reads as it did. -/
def elfWritesUptoRow : OpenClaim := { program := "ytgjoimcgiofinaa", sum := "621992c5fc0052e315a61a8454ae5c81877ec156c5ac86447d0cfb6cb5ec6d5f", func := "foundry/foundrylaw4.ElfWrites", spec := "elfWrites", inPlace := ["internal/bytealg.IndexByteString", "internal/bytealg.IndexString", "internal/bytealg.IndexByte"], unfollowed := true, recurses := true, named := ["internal/bytealg.MaxLen"], apart := false, narrowed := true }
def ElfWritesUptoSaid : Prop := elfWritesUptoRow.holds Try.pinned (OpenSpec.upto elfWritesSpec)

/-- 'foundrylaw4.ElfReads', WHERE WHAT IT READS IS OF BULK AT MOST 1048576: true; the input reads as it did. -/
def elfReadsUptoRow : OpenClaim := { program := "ytgjoimcgiofinaa", sum := "621992c5fc0052e315a61a8454ae5c81877ec156c5ac86447d0cfb6cb5ec6d5f", func := "foundry/foundrylaw4.ElfReads", spec := "elfReads", inPlace := ["internal/bytealg.IndexByteString", "internal/bytealg.IndexString", "internal/bytealg.IndexByte"], unfollowed := true, recurses := true, named := ["internal/bytealg.MaxLen"], apart := false, narrowed := true }
def ElfReadsUptoSaid : Prop := elfReadsUptoRow.holds Try.pinned (OpenSpec.upto elfReadsSpec)

/-- 'foundrylaw4.ElfBack', WHERE WHAT IT READS IS OF BULK AT MOST 1048576: true; the input reads as it did. -/
def elfBackUptoRow : OpenClaim := { program := "ytgjoimcgiofinaa", sum := "621992c5fc0052e315a61a8454ae5c81877ec156c5ac86447d0cfb6cb5ec6d5f", func := "foundry/foundrylaw4.ElfBack", spec := "elfBack", inPlace := ["internal/bytealg.IndexByteString", "internal/bytealg.IndexString", "internal/bytealg.IndexByte"], unfollowed := true, recurses := true, named := ["internal/bytealg.MaxLen"], apart := false, narrowed := true }
def ElfBackUptoSaid : Prop := elfBackUptoRow.holds Try.pinned (OpenSpec.upto elfBackSpec)

/-- 'foundrylaw4.ElfPlaces', WHERE WHAT IT READS IS OF BULK AT MOST 1048576: true; the input reads as it did. -/
def elfPlacesUptoRow : OpenClaim := { program := "ytgjoimcgiofinaa", sum := "621992c5fc0052e315a61a8454ae5c81877ec156c5ac86447d0cfb6cb5ec6d5f", func := "foundry/foundrylaw4.ElfPlaces", spec := "elfPlaces", inPlace := ["internal/bytealg.IndexByteString", "internal/bytealg.IndexString", "internal/bytealg.IndexByte"], unfollowed := true, recurses := true, named := ["internal/bytealg.MaxLen"], apart := false, narrowed := true }
def ElfPlacesUptoSaid : Prop := elfPlacesUptoRow.holds Try.pinned (OpenSpec.upto elfPlacesSpec)

/-- 'foundrylaw4.ElfOne', WHERE WHAT IT READS IS OF BULK AT MOST 1048576: true; the input reads as it did. -/
def elfOneUptoRow : OpenClaim := { program := "ytgjoimcgiofinaa", sum := "621992c5fc0052e315a61a8454ae5c81877ec156c5ac86447d0cfb6cb5ec6d5f", func := "foundry/foundrylaw4.ElfOne", spec := "elfOne", inPlace := ["internal/bytealg.IndexByteString", "internal/bytealg.IndexString", "internal/bytealg.IndexByte"], unfollowed := true, recurses := true, named := ["internal/bytealg.MaxLen"], apart := false, narrowed := true }
def ElfOneUptoSaid : Prop := elfOneUptoRow.holds Try.pinned (OpenSpec.upto elfOneSpec)

end Rows
end Go.Proofs.Ytgjoimcgiofinaa
