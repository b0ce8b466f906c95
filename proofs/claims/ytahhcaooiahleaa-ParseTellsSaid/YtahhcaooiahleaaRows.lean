/-
  No cell of these rows narrows 'for every input' (looked for: loops, veiled, ifaces, maps, wideKeys, modest, calm, conditions, laid).
  DERIVED. THE GIVEN ROWS OF THIS SEAT. 10 by the template 'for every input the law returns true; each argument reads behind the call as it read before'; 0 by the template 'total and deterministic' (their statements: YtahhcaooiahleaaTotals.lean).
  GIVEN WITH THE SEED: the statements are not yours to turn. If you find one false, say at which input.
  Laid BY PROGRAM, IN A SANDBOX (cutbox-rows.mjs): the forced cells as the released guide's own fill.sh prints them over the translation aac98ace26a7a938… (all of the seat's roots in one cut). By AI agents, Wed Nov 11 2026. No macro, syntax, notation, axiom, sorry.
-/
import Derived.Test.YtahhcaooiahleaaChecked
import GoSem.Claim
import GoSem.ClaimJoined
import GoSem.ClaimMapViews
import Derived.JoinedTies
import Derived.KernelRfl
namespace Go.Proofs.Ytahhcaooiahleaa
/- THE CELL 'sum', in the pinned program and in every row, IS THE sha256 OF THE DUMP (.gsa) THAT YtahhcaooiahleaaProg.lean LOADS. Nothing in Lean hashes anything: it is a label: what it is worth is what the hold of that sum in a sandbox is worth. -/
noncomputable def Try.pinned : Pinned := { name := "ytahhcaooiahleaa", sum := "aac98ace26a7a93843441b507d5720dc443b7474ad638dae767a007e1205aec5", checked := Try.checked }
namespace Rows
def none {H : Type} : Left H := { results := [], args := [] }

/-- 'garblerlaw09.LzmacFirst': WHATEVER THE INPUT: true; the input reads as it did. -/
def lzmacFirstSpec : ChangeSpec := { name := "lzmacFirst", fn := fun _ => fun
  | [d1, d2, d3] => { results := [.lit (.bool true)], args := [d1, d2, d3] }
  | _ => none }
def lzmacFirstRow : OpenClaim := { program := "ytahhcaooiahleaa", sum := "aac98ace26a7a93843441b507d5720dc443b7474ad638dae767a007e1205aec5", func := "garbler/garblerlaw09.LzmacFirst", spec := "lzmacFirst", apart := false }
def LzmacFirstSaid : Prop := lzmacFirstRow.holds Try.pinned (OpenSpec.ofChange lzmacFirstSpec)

/-- ITS FALSE NEIGHBOUR: 'it returns false'. Refute it at one input. -/
def lzmacFirstWrong : ChangeSpec := { name := "lzmacFirst", fn := fun _ => fun
  | [d1, d2, d3] => { results := [.lit (.bool false)], args := [d1, d2, d3] }
  | _ => none }
def LzmacFirstWrongFalsely : Prop := lzmacFirstRow.holds Try.pinned (OpenSpec.ofChange lzmacFirstWrong)

/-- 'garblerlaw10.ParseTells': WHATEVER THE INPUT: true; the input reads as it did. -/
def parseTellsSpec : ChangeSpec := { name := "parseTells", fn := fun _ => fun
  | [d1, d2, d3] => { results := [.lit (.bool true)], args := [d1, d2, d3] }
  | _ => none }
def parseTellsRow : OpenClaim := { program := "ytahhcaooiahleaa", sum := "aac98ace26a7a93843441b507d5720dc443b7474ad638dae767a007e1205aec5", func := "garbler/garblerlaw10.ParseTells", spec := "parseTells", apart := false }
def ParseTellsSaid : Prop := parseTellsRow.holds Try.pinned (OpenSpec.ofChange parseTellsSpec)

/-- ITS FALSE NEIGHBOUR: 'it returns false'. Refute it at one input. -/
def parseTellsWrong : ChangeSpec := { name := "parseTells", fn := fun _ => fun
  | [d1, d2, d3] => { results := [.lit (.bool false)], args := [d1, d2, d3] }
  | _ => none }
def ParseTellsWrongFalsely : Prop := parseTellsRow.holds Try.pinned (OpenSpec.ofChange parseTellsWrong)

/-- 'garblerlaw12.Lzma2cPacks': WHATEVER THE INPUT: true; the input reads as it did. -/
def lzma2cPacksSpec : ChangeSpec := { name := "lzma2cPacks", fn := fun _ => fun
  | [d1, d2, d3] => { results := [.lit (.bool true)], args := [d1, d2, d3] }
  | _ => none }
def lzma2cPacksRow : OpenClaim := { program := "ytahhcaooiahleaa", sum := "aac98ace26a7a93843441b507d5720dc443b7474ad638dae767a007e1205aec5", func := "garbler/garblerlaw12.Lzma2cPacks", spec := "lzma2cPacks", apart := false }
def Lzma2cPacksSaid : Prop := lzma2cPacksRow.holds Try.pinned (OpenSpec.ofChange lzma2cPacksSpec)

/-- ITS FALSE NEIGHBOUR: 'it returns false'. Refute it at one input. -/
def lzma2cPacksWrong : ChangeSpec := { name := "lzma2cPacks", fn := fun _ => fun
  | [d1, d2, d3] => { results := [.lit (.bool false)], args := [d1, d2, d3] }
  | _ => none }
def Lzma2cPacksWrongFalsely : Prop := lzma2cPacksRow.holds Try.pinned (OpenSpec.ofChange lzma2cPacksWrong)

/-- 'garblerlaw12.Lzma2cSmall': WHATEVER THE INPUT: true; the input reads as it did. -/
def lzma2cSmallSpec : ChangeSpec := { name := "lzma2cSmall", fn := fun _ => fun
  | [d1, d2, d3] => { results := [.lit (.bool true)], args := [d1, d2, d3] }
  | _ => none }
def lzma2cSmallRow : OpenClaim := { program := "ytahhcaooiahleaa", sum := "aac98ace26a7a93843441b507d5720dc443b7474ad638dae767a007e1205aec5", func := "garbler/garblerlaw12.Lzma2cSmall", spec := "lzma2cSmall", apart := false }
def Lzma2cSmallSaid : Prop := lzma2cSmallRow.holds Try.pinned (OpenSpec.ofChange lzma2cSmallSpec)

/-- ITS FALSE NEIGHBOUR: 'it returns false'. Refute it at one input. -/
def lzma2cSmallWrong : ChangeSpec := { name := "lzma2cSmall", fn := fun _ => fun
  | [d1, d2, d3] => { results := [.lit (.bool false)], args := [d1, d2, d3] }
  | _ => none }
def Lzma2cSmallWrongFalsely : Prop := lzma2cSmallRow.holds Try.pinned (OpenSpec.ofChange lzma2cSmallWrong)

/-- 'garblerlaw12.Lzma2cChunks': WHATEVER THE INPUT: true; the input reads as it did. -/
def lzma2cChunksSpec : ChangeSpec := { name := "lzma2cChunks", fn := fun _ => fun
  | [d1, d2, d3] => { results := [.lit (.bool true)], args := [d1, d2, d3] }
  | _ => none }
def lzma2cChunksRow : OpenClaim := { program := "ytahhcaooiahleaa", sum := "aac98ace26a7a93843441b507d5720dc443b7474ad638dae767a007e1205aec5", func := "garbler/garblerlaw12.Lzma2cChunks", spec := "lzma2cChunks", apart := false }
def Lzma2cChunksSaid : Prop := lzma2cChunksRow.holds Try.pinned (OpenSpec.ofChange lzma2cChunksSpec)

/-- ITS FALSE NEIGHBOUR: 'it returns false'. Refute it at one input. -/
def lzma2cChunksWrong : ChangeSpec := { name := "lzma2cChunks", fn := fun _ => fun
  | [d1, d2, d3] => { results := [.lit (.bool false)], args := [d1, d2, d3] }
  | _ => none }
def Lzma2cChunksWrongFalsely : Prop := lzma2cChunksRow.holds Try.pinned (OpenSpec.ofChange lzma2cChunksWrong)

/-- 'garblerlaw08.LzmaCoded': WHATEVER THE INPUT: true; the input reads as it did. -/
def lzmaCodedSpec : ChangeSpec := { name := "lzmaCoded", fn := fun _ => fun
  | [d1, d2, d3] => { results := [.lit (.bool true)], args := [d1, d2, d3] }
  | _ => none }
def lzmaCodedRow : OpenClaim := { program := "ytahhcaooiahleaa", sum := "aac98ace26a7a93843441b507d5720dc443b7474ad638dae767a007e1205aec5", func := "garbler/garblerlaw08.LzmaCoded", spec := "lzmaCoded", inPlace := ["sync/atomic.LoadInt64", "sync/atomic.CompareAndSwapInt64"], unfollowed := true, recurses := true, apart := false }
def LzmaCodedSaid : Prop := lzmaCodedRow.holds Try.pinned (OpenSpec.ofChange lzmaCodedSpec)

/-- ITS FALSE NEIGHBOUR: 'it returns false'. Refute it at one input. -/
def lzmaCodedWrong : ChangeSpec := { name := "lzmaCoded", fn := fun _ => fun
  | [d1, d2, d3] => { results := [.lit (.bool false)], args := [d1, d2, d3] }
  | _ => none }
def LzmaCodedWrongFalsely : Prop := lzmaCodedRow.holds Try.pinned (OpenSpec.ofChange lzmaCodedWrong)

/-- 'garblerlaw08.LzmaUnpacks': WHATEVER THE INPUT: true; the input reads as it did. -/
def lzmaUnpacksSpec : ChangeSpec := { name := "lzmaUnpacks", fn := fun _ => fun
  | [d1, d2, d3] => { results := [.lit (.bool true)], args := [d1, d2, d3] }
  | _ => none }
def lzmaUnpacksRow : OpenClaim := { program := "ytahhcaooiahleaa", sum := "aac98ace26a7a93843441b507d5720dc443b7474ad638dae767a007e1205aec5", func := "garbler/garblerlaw08.LzmaUnpacks", spec := "lzmaUnpacks", inPlace := ["sync/atomic.LoadInt64", "sync/atomic.CompareAndSwapInt64"], unfollowed := true, recurses := true, apart := false }
def LzmaUnpacksSaid : Prop := lzmaUnpacksRow.holds Try.pinned (OpenSpec.ofChange lzmaUnpacksSpec)

/-- ITS FALSE NEIGHBOUR: 'it returns false'. Refute it at one input. -/
def lzmaUnpacksWrong : ChangeSpec := { name := "lzmaUnpacks", fn := fun _ => fun
  | [d1, d2, d3] => { results := [.lit (.bool false)], args := [d1, d2, d3] }
  | _ => none }
def LzmaUnpacksWrongFalsely : Prop := lzmaUnpacksRow.holds Try.pinned (OpenSpec.ofChange lzmaUnpacksWrong)

/-- 'garblerlaw11.Lzma2Joins': WHATEVER THE INPUT: true; the input reads as it did. -/
def lzma2JoinsSpec : ChangeSpec := { name := "lzma2Joins", fn := fun _ => fun
  | [d1, d2, d3] => { results := [.lit (.bool true)], args := [d1, d2, d3] }
  | _ => none }
def lzma2JoinsRow : OpenClaim := { program := "ytahhcaooiahleaa", sum := "aac98ace26a7a93843441b507d5720dc443b7474ad638dae767a007e1205aec5", func := "garbler/garblerlaw11.Lzma2Joins", spec := "lzma2Joins", inPlace := ["sync/atomic.LoadInt64", "sync/atomic.CompareAndSwapInt64"], unfollowed := true, recurses := true, apart := false }
def Lzma2JoinsSaid : Prop := lzma2JoinsRow.holds Try.pinned (OpenSpec.ofChange lzma2JoinsSpec)

/-- ITS FALSE NEIGHBOUR: 'it returns false'. Refute it at one input. -/
def lzma2JoinsWrong : ChangeSpec := { name := "lzma2Joins", fn := fun _ => fun
  | [d1, d2, d3] => { results := [.lit (.bool false)], args := [d1, d2, d3] }
  | _ => none }
def Lzma2JoinsWrongFalsely : Prop := lzma2JoinsRow.holds Try.pinned (OpenSpec.ofChange lzma2JoinsWrong)

/-- 'garblerlaw09.LzmacRuns': WHATEVER THE INPUT: true; the input reads as it did. -/
def lzmacRunsSpec : ChangeSpec := { name := "lzmacRuns", fn := fun _ => fun
  | [d1, d2, d3] => { results := [.lit (.bool true)], args := [d1, d2, d3] }
  | _ => none }
def lzmacRunsRow : OpenClaim := { program := "ytahhcaooiahleaa", sum := "aac98ace26a7a93843441b507d5720dc443b7474ad638dae767a007e1205aec5", func := "garbler/garblerlaw09.LzmacRuns", spec := "lzmacRuns", inPlace := ["sync/atomic.LoadInt64", "sync/atomic.CompareAndSwapInt64"], unfollowed := true, recurses := true, apart := false }
def LzmacRunsSaid : Prop := lzmacRunsRow.holds Try.pinned (OpenSpec.ofChange lzmacRunsSpec)

/-- ITS FALSE NEIGHBOUR: 'it returns false'. Refute it at one input. -/
def lzmacRunsWrong : ChangeSpec := { name := "lzmacRuns", fn := fun _ => fun
  | [d1, d2, d3] => { results := [.lit (.bool false)], args := [d1, d2, d3] }
  | _ => none }
def LzmacRunsWrongFalsely : Prop := lzmacRunsRow.holds Try.pinned (OpenSpec.ofChange lzmacRunsWrong)

/-- 'garblerlaw09.LzmacLiteral': WHATEVER THE INPUT: true; the input reads as it did. -/
def lzmacLiteralSpec : ChangeSpec := { name := "lzmacLiteral", fn := fun _ => fun
  | [d1, d2] => { results := [.lit (.bool true)], args := [d1, d2] }
  | _ => none }
def lzmacLiteralRow : OpenClaim := { program := "ytahhcaooiahleaa", sum := "aac98ace26a7a93843441b507d5720dc443b7474ad638dae767a007e1205aec5", func := "garbler/garblerlaw09.LzmacLiteral", spec := "lzmacLiteral", inPlace := ["sync/atomic.LoadInt64", "sync/atomic.CompareAndSwapInt64"], unfollowed := true, recurses := true, apart := false }
def LzmacLiteralSaid : Prop := lzmacLiteralRow.holds Try.pinned (OpenSpec.ofChange lzmacLiteralSpec)

/-- ITS FALSE NEIGHBOUR: 'it returns false'. Refute it at one input. -/
def lzmacLiteralWrong : ChangeSpec := { name := "lzmacLiteral", fn := fun _ => fun
  | [d1, d2] => { results := [.lit (.bool false)], args := [d1, d2] }
  | _ => none }
def LzmacLiteralWrongFalsely : Prop := lzmacLiteralRow.holds Try.pinned (OpenSpec.ofChange lzmacLiteralWrong)

/- THE SECOND FORM. 'bulk': how many values and letters a reading holds, each counted each time it is reached (what is shared counts as often as it is met; a slice's spare places count too). A statement '..UptoSaid' is the law's where the arguments, and the package variables that the reading takes, are together of bulk at most 1048576: NARROWER than '..Said'. Prove '..Said' where nothing that the law and all that it calls make is longer than what came in: it says more and counts as full. Else prove '..UptoSaid'. A law counts once. -/
mutual
def uptoBulk {H : Type} : DataW H → Nat
  | .lit (.string bytes) => bytes.length + 1
  | .lit _ => 1
  | .nil => 1
  | .ptr d => uptoBulk d + 1
  | .slice elems spare => uptoBulkAll elems + uptoBulkAll spare + 1
  | .agg parts => uptoBulkAll parts + 1
  | .iface _ d => uptoBulk d + 1
  | .map entries => uptoBulkEntries entries + 1
  | .held _ => 1
def uptoBulkAll {H : Type} : List (DataW H) → Nat
  | [] => 0
  | d :: r => uptoBulk d + uptoBulkAll r
def uptoBulkEntries {H : Type} : List (Lit × DataW H) → Nat
  | [] => 0
  | x :: r => uptoBulkEntry x + uptoBulkEntries r
def uptoBulkEntry {H : Type} : Lit × DataW H → Nat
  | (.string bytes, d) => bytes.length + uptoBulk d + 1
  | (_, d) => uptoBulk d + 1
 end
def uptoSmall : (H : Type) → List (DataW H) → Bool := fun _ ds => decide (uptoBulkAll ds ≤ 1048576)
def OpenSpec.upto (s : _root_.Go.ChangeSpec) : _root_.Go.OpenSpec := { _root_.Go.OpenSpec.ofChange s with cond := some uptoSmall }

/-- 'garblerlaw09.LzmacFirst', WHERE WHAT IT READS IS OF BULK AT MOST 1048576: true; the input reads as it did. -/
def lzmacFirstUptoRow : OpenClaim := { program := "ytahhcaooiahleaa", sum := "aac98ace26a7a93843441b507d5720dc443b7474ad638dae767a007e1205aec5", func := "garbler/garblerlaw09.LzmacFirst", spec := "lzmacFirst", apart := false, narrowed := true }
def LzmacFirstUptoSaid : Prop := lzmacFirstUptoRow.holds Try.pinned (OpenSpec.upto lzmacFirstSpec)

/-- 'garblerlaw10.ParseTells', WHERE WHAT IT READS IS OF BULK AT MOST 1048576: true; the input reads as it did. -/
def parseTellsUptoRow : OpenClaim := { program := "ytahhcaooiahleaa", sum := "aac98ace26a7a93843441b507d5720dc443b7474ad638dae767a007e1205aec5", func := "garbler/garblerlaw10.ParseTells", spec := "parseTells", apart := false, narrowed := true }
def ParseTellsUptoSaid : Prop := parseTellsUptoRow.holds Try.pinned (OpenSpec.upto parseTellsSpec)

/-- 'garblerlaw12.Lzma2cPacks', WHERE WHAT IT READS IS OF BULK AT MOST 1048576: true; the input reads as it did. -/
def lzma2cPacksUptoRow : OpenClaim := { program := "ytahhcaooiahleaa", sum := "aac98ace26a7a93843441b507d5720dc443b7474ad638dae767a007e1205aec5", func := "garbler/garblerlaw12.Lzma2cPacks", spec := "lzma2cPacks", apart := false, narrowed := true }
def Lzma2cPacksUptoSaid : Prop := lzma2cPacksUptoRow.holds Try.pinned (OpenSpec.upto lzma2cPacksSpec)

/-- 'garblerlaw12.Lzma2cSmall', WHERE WHAT IT READS IS OF BULK AT MOST 1048576: true; the input reads as it did. -/
def lzma2cSmallUptoRow : OpenClaim := { program := "ytahhcaooiahleaa", sum := "aac98ace26a7a93843441b507d5720dc443b7474ad638dae767a007e1205aec5", func := "garbler/garblerlaw12.Lzma2cSmall", spec := "lzma2cSmall", apart := false, narrowed := true }
def Lzma2cSmallUptoSaid : Prop := lzma2cSmallUptoRow.holds Try.pinned (OpenSpec.upto lzma2cSmallSpec)

/-- 'garblerlaw12.Lzma2cChunks', WHERE WHAT IT READS IS OF BULK AT MOST 1048576: true; the input reads as it did. -/
def lzma2cChunksUptoRow : OpenClaim := { program := "ytahhcaooiahleaa", sum := "aac98ace26a7a93843441b507d5720dc443b7474ad638dae767a007e1205aec5", func := "garbler/garblerlaw12.Lzma2cChunks", spec := "lzma2cChunks", apart := false, narrowed := true }
def Lzma2cChunksUptoSaid : Prop := lzma2cChunksUptoRow.holds Try.pinned (OpenSpec.upto lzma2cChunksSpec)

/-- 'garblerlaw08.LzmaCoded', WHERE WHAT IT READS IS OF BULK AT MOST 1048576: true; the input reads as it did. -/
def lzmaCodedUptoRow : OpenClaim := { program := "ytahhcaooiahleaa", sum := "aac98ace26a7a93843441b507d5720dc443b7474ad638dae767a007e1205aec5", func := "garbler/garblerlaw08.LzmaCoded", spec := "lzmaCoded", inPlace := ["sync/atomic.LoadInt64", "sync/atomic.CompareAndSwapInt64"], unfollowed := true, recurses := true, apart := false, narrowed := true }
def LzmaCodedUptoSaid : Prop := lzmaCodedUptoRow.holds Try.pinned (OpenSpec.upto lzmaCodedSpec)

/-- 'garblerlaw08.LzmaUnpacks', WHERE WHAT IT READS IS OF BULK AT MOST 1048576: true; the input reads as it did. -/
def lzmaUnpacksUptoRow : OpenClaim := { program := "ytahhcaooiahleaa", sum := "aac98ace26a7a93843441b507d5720dc443b7474ad638dae767a007e1205aec5", func := "garbler/garblerlaw08.LzmaUnpacks", spec := "lzmaUnpacks", inPlace := ["sync/atomic.LoadInt64", "sync/atomic.CompareAndSwapInt64"], unfollowed := true, recurses := true, apart := false, narrowed := true }
def LzmaUnpacksUptoSaid : Prop := lzmaUnpacksUptoRow.holds Try.pinned (OpenSpec.upto lzmaUnpacksSpec)

/-- 'garblerlaw11.Lzma2Joins', WHERE WHAT IT READS IS OF BULK AT MOST 1048576: true; the input reads as it did. -/
def lzma2JoinsUptoRow : OpenClaim := { program := "ytahhcaooiahleaa", sum := "aac98ace26a7a93843441b507d5720dc443b7474ad638dae767a007e1205aec5", func := "garbler/garblerlaw11.Lzma2Joins", spec := "lzma2Joins", inPlace := ["sync/atomic.LoadInt64", "sync/atomic.CompareAndSwapInt64"], unfollowed := true, recurses := true, apart := false, narrowed := true }
def Lzma2JoinsUptoSaid : Prop := lzma2JoinsUptoRow.holds Try.pinned (OpenSpec.upto lzma2JoinsSpec)

/-- 'garblerlaw09.LzmacRuns', WHERE WHAT IT READS IS OF BULK AT MOST 1048576: true; the input reads as it did. -/
def lzmacRunsUptoRow : OpenClaim := { program := "ytahhcaooiahleaa", sum := "aac98ace26a7a93843441b507d5720dc443b7474ad638dae767a007e1205aec5", func := "garbler/garblerlaw09.LzmacRuns", spec := "lzmacRuns", inPlace := ["sync/atomic.LoadInt64", "sync/atomic.CompareAndSwapInt64"], unfollowed := true, recurses := true, apart := false, narrowed := true }
def LzmacRunsUptoSaid : Prop := lzmacRunsUptoRow.holds Try.pinned (OpenSpec.upto lzmacRunsSpec)

/-- 'garblerlaw09.LzmacLiteral', WHERE WHAT IT READS IS OF BULK AT MOST 1048576: true; the input reads as it did. -/
def lzmacLiteralUptoRow : OpenClaim := { program := "ytahhcaooiahleaa", sum := "aac98ace26a7a93843441b507d5720dc443b7474ad638dae767a007e1205aec5", func := "garbler/garblerlaw09.LzmacLiteral", spec := "lzmacLiteral", inPlace := ["sync/atomic.LoadInt64", "sync/atomic.CompareAndSwapInt64"], unfollowed := true, recurses := true, apart := false, narrowed := true }
def LzmacLiteralUptoSaid : Prop := lzmacLiteralUptoRow.holds Try.pinned (OpenSpec.upto lzmacLiteralSpec)

end Rows
end Go.Proofs.Ytahhcaooiahleaa
