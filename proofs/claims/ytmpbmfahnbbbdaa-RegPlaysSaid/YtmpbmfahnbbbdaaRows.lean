/-
  No cell of these rows narrows 'for every input' (looked for: loops, veiled, ifaces, maps, wideKeys, modest, calm, conditions, laid).
  DERIVED. THE GIVEN ROWS OF THIS SEAT. 5 by the template 'for every input the law returns true; each argument reads behind the call as it read before'; 0 by the template 'total and deterministic' (their statements: YtmpbmfahnbbbdaaTotals.lean).
  GIVEN WITH THE SEED: the statements are not yours to turn. If you find one false, say at which input.
  Laid BY PROGRAM, IN A SANDBOX (cutbox-rows.mjs): the forced cells as the released guide's own fill.sh prints them over the translation cece2819fce79294… (all of the seat's roots in one cut). By AI agents, Wed Nov 11 2026. No macro, syntax, notation, axiom, sorry.
-/
import Derived.Test.YtmpbmfahnbbbdaaChecked
import GoSem.Claim
import GoSem.ClaimJoined
import GoSem.ClaimMapViews
import Derived.JoinedTies
import Derived.KernelRfl
namespace Go.Proofs.Ytmpbmfahnbbbdaa
/- THE CELL 'sum', in the pinned program and in every row, IS THE sha256 OF THE DUMP (.gsa) THAT YtmpbmfahnbbbdaaProg.lean LOADS. Nothing in Lean hashes anything: it is a label: what it is worth is what the hold of that sum in a sandbox is worth. -/
noncomputable def Try.pinned : Pinned := { name := "ytmpbmfahnbbbdaa", sum := "cece2819fce79294b3a664cc0f0a3a9fcb18b8e14eb62cbe62d18910cd574572", checked := Try.checked }
namespace Rows
def none {H : Type} : Left H := { results := [], args := [] }

/-- 'henlaw21.RegShards': WHATEVER THE INPUT: true; the input reads as it did. -/
def regShardsSpec : ChangeSpec := { name := "regShards", fn := fun _ => fun
  | [d1, d2, d3, d4] => { results := [.lit (.bool true)], args := [d1, d2, d3, d4] }
  | _ => none }
def regShardsRow : OpenClaim := { program := "ytmpbmfahnbbbdaa", sum := "cece2819fce79294b3a664cc0f0a3a9fcb18b8e14eb62cbe62d18910cd574572", func := "henhouse/henlaw21.RegShards", spec := "regShards", inPlace := ["internal/bytealg.abigen_runtime_cmpstring", "slices.overlaps[henhouse/omap.entry[int]]"], unfollowed := true, recurses := true, apart := false }
def RegShardsSaid : Prop := regShardsRow.holds Try.pinned (OpenSpec.ofChange regShardsSpec)

/-- ITS FALSE NEIGHBOUR: 'it returns false'. Refute it at one input. -/
def regShardsWrong : ChangeSpec := { name := "regShards", fn := fun _ => fun
  | [d1, d2, d3, d4] => { results := [.lit (.bool false)], args := [d1, d2, d3, d4] }
  | _ => none }
def RegShardsWrongFalsely : Prop := regShardsRow.holds Try.pinned (OpenSpec.ofChange regShardsWrong)

/-- 'henlaw21.RegUnder': WHATEVER THE INPUT: true; the input reads as it did. -/
def regUnderSpec : ChangeSpec := { name := "regUnder", fn := fun _ => fun
  | [d1, d2, d3] => { results := [.lit (.bool true)], args := [d1, d2, d3] }
  | _ => none }
def regUnderRow : OpenClaim := { program := "ytmpbmfahnbbbdaa", sum := "cece2819fce79294b3a664cc0f0a3a9fcb18b8e14eb62cbe62d18910cd574572", func := "henhouse/henlaw21.RegUnder", spec := "regUnder", inPlace := ["internal/bytealg.abigen_runtime_cmpstring", "slices.overlaps[henhouse/omap.entry[int]]"], unfollowed := true, recurses := true, apart := false }
def RegUnderSaid : Prop := regUnderRow.holds Try.pinned (OpenSpec.ofChange regUnderSpec)

/-- ITS FALSE NEIGHBOUR: 'it returns false'. Refute it at one input. -/
def regUnderWrong : ChangeSpec := { name := "regUnder", fn := fun _ => fun
  | [d1, d2, d3] => { results := [.lit (.bool false)], args := [d1, d2, d3] }
  | _ => none }
def RegUnderWrongFalsely : Prop := regUnderRow.holds Try.pinned (OpenSpec.ofChange regUnderWrong)

/-- 'henlaw21.RegBack': WHATEVER THE INPUT: true; the input reads as it did. -/
def regBackSpec : ChangeSpec := { name := "regBack", fn := fun _ => fun
  | [d1, d2, d3, d4, d5] => { results := [.lit (.bool true)], args := [d1, d2, d3, d4, d5] }
  | _ => none }
def regBackRow : OpenClaim := { program := "ytmpbmfahnbbbdaa", sum := "cece2819fce79294b3a664cc0f0a3a9fcb18b8e14eb62cbe62d18910cd574572", func := "henhouse/henlaw21.RegBack", spec := "regBack", inPlace := ["internal/bytealg.abigen_runtime_cmpstring", "slices.overlaps[henhouse/omap.entry[int]]"], unfollowed := true, recurses := true, apart := false }
def RegBackSaid : Prop := regBackRow.holds Try.pinned (OpenSpec.ofChange regBackSpec)

/-- ITS FALSE NEIGHBOUR: 'it returns false'. Refute it at one input. -/
def regBackWrong : ChangeSpec := { name := "regBack", fn := fun _ => fun
  | [d1, d2, d3, d4, d5] => { results := [.lit (.bool false)], args := [d1, d2, d3, d4, d5] }
  | _ => none }
def RegBackWrongFalsely : Prop := regBackRow.holds Try.pinned (OpenSpec.ofChange regBackWrong)

/-- 'henlaw21.RegPlays': WHATEVER THE INPUT: true; the input reads as it did. -/
def regPlaysSpec : ChangeSpec := { name := "regPlays", fn := fun _ => fun
  | [d1, d2, d3] => { results := [.lit (.bool true)], args := [d1, d2, d3] }
  | _ => none }
def regPlaysRow : OpenClaim := { program := "ytmpbmfahnbbbdaa", sum := "cece2819fce79294b3a664cc0f0a3a9fcb18b8e14eb62cbe62d18910cd574572", func := "henhouse/henlaw21.RegPlays", spec := "regPlays", inPlace := ["internal/bytealg.abigen_runtime_cmpstring", "slices.overlaps[henhouse/omap.entry[int]]"], unfollowed := true, recurses := true, apart := false }
def RegPlaysSaid : Prop := regPlaysRow.holds Try.pinned (OpenSpec.ofChange regPlaysSpec)

/-- ITS FALSE NEIGHBOUR: 'it returns false'. Refute it at one input. -/
def regPlaysWrong : ChangeSpec := { name := "regPlays", fn := fun _ => fun
  | [d1, d2, d3] => { results := [.lit (.bool false)], args := [d1, d2, d3] }
  | _ => none }
def RegPlaysWrongFalsely : Prop := regPlaysRow.holds Try.pinned (OpenSpec.ofChange regPlaysWrong)

/-- 'henlaw21.RegLoads': WHATEVER THE INPUT: true; the input reads as it did. -/
def regLoadsSpec : ChangeSpec := { name := "regLoads", fn := fun _ => fun
  | [d1, d2] => { results := [.lit (.bool true)], args := [d1, d2] }
  | _ => none }
def regLoadsRow : OpenClaim := { program := "ytmpbmfahnbbbdaa", sum := "cece2819fce79294b3a664cc0f0a3a9fcb18b8e14eb62cbe62d18910cd574572", func := "henhouse/henlaw21.RegLoads", spec := "regLoads", inPlace := ["internal/bytealg.abigen_runtime_cmpstring", "slices.overlaps[henhouse/omap.entry[int]]"], unfollowed := true, recurses := true, apart := false }
def RegLoadsSaid : Prop := regLoadsRow.holds Try.pinned (OpenSpec.ofChange regLoadsSpec)

/-- ITS FALSE NEIGHBOUR: 'it returns false'. Refute it at one input. -/
def regLoadsWrong : ChangeSpec := { name := "regLoads", fn := fun _ => fun
  | [d1, d2] => { results := [.lit (.bool false)], args := [d1, d2] }
  | _ => none }
def RegLoadsWrongFalsely : Prop := regLoadsRow.holds Try.pinned (OpenSpec.ofChange regLoadsWrong)

/- THE SECOND FORM. 'bulk': how many values and letters a reading holds, each counted each time it is reached (what is shared counts as often as it is met; a slice's spare places count too). A statement '..UptoSaid' is the law's where the arguments, and the package variables that the reading takes, are together of bulk at most 1048576: NARROWER than '..Said'. Prove '..Said' where nothing that the law and all that it calls make is longer than what came in: it says more and counts as full. Else prove '..UptoSaid'. A law counts once. -/
mutual
def uptoBulk {H : Type} : DataW H → Nat
  | .lit (.string bytes) => bytes.length + 1
  | .lit _ => 1
  | .nil => 1
  | .ptr d => uptoBulk d + 1
  | .slice elems spare => uptoBulkAll elems + uptoBulkAll spare + 1
  | .agg parts => uptoBulkAll parts + 1
  | .iface _ d => uptoBulk d + 1
  | .map entries => uptoBulkEntries entries + 1
  | .held _ => 1
def uptoBulkAll {H : Type} : List (DataW H) → Nat
  | [] => 0
  | d :: r => uptoBulk d + uptoBulkAll r
def uptoBulkEntries {H : Type} : List (Lit × DataW H) → Nat
  | [] => 0
  | x :: r => uptoBulkEntry x + uptoBulkEntries r
def uptoBulkEntry {H : Type} : Lit × DataW H → Nat
  | (.string bytes, d) => bytes.length + uptoBulk d + 1
  | (_, d) => uptoBulk d + 1
 end
def uptoSmall : (H : Type) → List (DataW H) → Bool := fun _ ds => decide (uptoBulkAll ds ≤ 1048576)
def OpenSpec.upto (s : _root_.Go.ChangeSpec) : _root_.Go.OpenSpec := { _root_.Go.OpenSpec.ofChange s with cond := some uptoSmall }

/-- 'henlaw21.RegShards', WHERE WHAT IT READS IS OF BULK AT MOST 1048576: true; the input reads as it did. -/
def regShardsUptoRow : OpenClaim := { program := "ytmpbmfahnbbbdaa", sum := "cece2819fce79294b3a664cc0f0a3a9fcb18b8e14eb62cbe62d18910cd574572", func := "henhouse/henlaw21.RegShards", spec := "regShards", inPlace := ["internal/bytealg.abigen_runtime_cmpstring", "slices.overlaps[henhouse/omap.entry[int]]"], unfollowed := true, recurses := true, apart := false, narrowed := true }
def RegShardsUptoSaid : Prop := regShardsUptoRow.holds Try.pinned (OpenSpec.upto regShardsSpec)

/-- 'henlaw21.RegUnder', WHERE WHAT IT READS IS OF BULK AT MOST 1048576: true; the input reads as it did. -/
def regUnderUptoRow : OpenClaim := { program := "ytmpbmfahnbbbdaa", sum := "cece2819fce79294b3a664cc0f0a3a9fcb18b8e14eb62cbe62d18910cd574572", func := "henhouse/henlaw21.RegUnder", spec := "regUnder", inPlace := ["internal/bytealg.abigen_runtime_cmpstring", "slices.overlaps[henhouse/omap.entry[int]]"], unfollowed := true, recurses := true, apart := false, narrowed := true }
def RegUnderUptoSaid : Prop := regUnderUptoRow.holds Try.pinned (OpenSpec.upto regUnderSpec)

/-- 'henlaw21.RegBack', WHERE WHAT IT READS IS OF BULK AT MOST 1048576: true; the input reads as it did. -/
def regBackUptoRow : OpenClaim := { program := "ytmpbmfahnbbbdaa", sum := "cece2819fce79294b3a664cc0f0a3a9fcb18b8e14eb62cbe62d18910cd574572", func := "henhouse/henlaw21.RegBack", spec := "regBack", inPlace := ["internal/bytealg.abigen_runtime_cmpstring", "slices.overlaps[henhouse/omap.entry[int]]"], unfollowed := true, recurses := true, apart := false, narrowed := true }
def RegBackUptoSaid : Prop := regBackUptoRow.holds Try.pinned (OpenSpec.upto regBackSpec)

/-- 'henlaw21.RegPlays', WHERE WHAT IT READS IS OF BULK AT MOST 1048576: true; the input reads as it did. -/
def regPlaysUptoRow : OpenClaim := { program := "ytmpbmfahnbbbdaa", sum := "cece2819fce79294b3a664cc0f0a3a9fcb18b8e14eb62cbe62d18910cd574572", func := "henhouse/henlaw21.RegPlays", spec := "regPlays", inPlace := ["internal/bytealg.abigen_runtime_cmpstring", "slices.overlaps[henhouse/omap.entry[int]]"], unfollowed := true, recurses := true, apart := false, narrowed := true }
def RegPlaysUptoSaid : Prop := regPlaysUptoRow.holds Try.pinned (OpenSpec.upto regPlaysSpec)

/-- 'henlaw21.RegLoads', WHERE WHAT IT READS IS OF BULK AT MOST 1048576: true; the input reads as it did. -/
def regLoadsUptoRow : OpenClaim := { program := "ytmpbmfahnbbbdaa", sum := "cece2819fce79294b3a664cc0f0a3a9fcb18b8e14eb62cbe62d18910cd574572", func := "henhouse/henlaw21.RegLoads", spec := "regLoads", inPlace := ["internal/bytealg.abigen_runtime_cmpstring", "slices.overlaps[henhouse/omap.entry[int]]"], unfollowed := true, recurses := true, apart := false, narrowed := true }
def RegLoadsUptoSaid : Prop := regLoadsUptoRow.holds Try.pinned (OpenSpec.upto regLoadsSpec)

end Rows
end Go.Proofs.Ytmpbmfahnbbbdaa
