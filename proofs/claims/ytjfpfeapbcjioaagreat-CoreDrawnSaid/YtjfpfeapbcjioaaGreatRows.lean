/-
  No cell of these rows narrows 'for every input' (looked for: loops, veiled, ifaces, maps, wideKeys, modest, calm, conditions, laid).
  DERIVED. THE GIVEN ROWS OF THIS SEAT. 3 by the template 'for every input the law returns true; each argument reads behind the call as it read before'; 0 by the template 'total and deterministic' (their statements: YtjfpfeapbcjioaaGreatTotals.lean).
  GIVEN WITH THE SEED: the statements are not yours to turn. If you find one false, say at which input.
  Laid BY PROGRAM, IN A SANDBOX (cutbox-rows.mjs): the forced cells as the released guide's own fill.sh prints them over the translation b291858330dcd4b9… (all of the seat's roots in one cut). By AI agents, Wed Nov 11 2026. No macro, syntax, notation, axiom, sorry.
-/
import Derived.Test.YtjfpfeapbcjioaaGreatChecked
import GoSem.Claim
import GoSem.ClaimJoined
import GoSem.ClaimMapViews
import Derived.JoinedTies
import Derived.KernelRfl
namespace Go.Proofs.YtjfpfeapbcjioaaGreat
/- THE CELL 'sum', in the pinned program and in every row, IS THE sha256 OF THE DUMP (.gsa) THAT YtjfpfeapbcjioaaGreatProg.lean LOADS. Nothing in Lean hashes anything: it is a label: what it is worth is what the hold of that sum in a sandbox is worth. -/
noncomputable def Tryz.pinned : Pinned := { name := "ytjfpfeapbcjioaagreat", sum := "b291858330dcd4b95b29c35c840ffc172a36cdb7a04a2a6d1e0c099f07664bd5", checked := Tryz.checked }
namespace Rows
def none {H : Type} : Left H := { results := [], args := [] }

/-- 'henlaw27.CoreDrawn': WHATEVER THE INPUT: true; the input reads as it did. -/
def coreDrawnSpec : ChangeSpec := { name := "coreDrawn", fn := fun _ => fun
  | [d1, d2, d3, d4, d5] => { results := [.lit (.bool true)], args := [d1, d2, d3, d4, d5] }
  | _ => none }
def coreDrawnRow : OpenClaim := { program := "ytjfpfeapbcjioaagreat", sum := "b291858330dcd4b95b29c35c840ffc172a36cdb7a04a2a6d1e0c099f07664bd5", func := "henhouse/henlaw27.CoreDrawn", spec := "coreDrawn", inPlace := ["internal/bytealg.abigen_runtime_cmpstring", "slices.overlaps[henhouse/omap.entry[*henhouse/quota.Budget]]", "slices.overlaps[henhouse/omap.entry[int]]", "slices.overlaps[henhouse/omap.entry[henhouse/col.entry]]"], unfollowed := true, recurses := true, apart := false }
def CoreDrawnSaid : Prop := coreDrawnRow.holds Tryz.pinned (OpenSpec.ofChange coreDrawnSpec)

/-- ITS FALSE NEIGHBOUR: 'it returns false'. Refute it at one input. -/
def coreDrawnWrong : ChangeSpec := { name := "coreDrawn", fn := fun _ => fun
  | [d1, d2, d3, d4, d5] => { results := [.lit (.bool false)], args := [d1, d2, d3, d4, d5] }
  | _ => none }
def CoreDrawnWrongFalsely : Prop := coreDrawnRow.holds Tryz.pinned (OpenSpec.ofChange coreDrawnWrong)

/-- 'henlaw27.CoreDead': WHATEVER THE INPUT: true; the input reads as it did. -/
def coreDeadSpec : ChangeSpec := { name := "coreDead", fn := fun _ => fun
  | [d1, d2, d3, d4, d5, d6] => { results := [.lit (.bool true)], args := [d1, d2, d3, d4, d5, d6] }
  | _ => none }
def coreDeadRow : OpenClaim := { program := "ytjfpfeapbcjioaagreat", sum := "b291858330dcd4b95b29c35c840ffc172a36cdb7a04a2a6d1e0c099f07664bd5", func := "henhouse/henlaw27.CoreDead", spec := "coreDead", inPlace := ["internal/bytealg.abigen_runtime_cmpstring", "slices.overlaps[henhouse/omap.entry[*henhouse/quota.Budget]]", "slices.overlaps[henhouse/omap.entry[int]]", "slices.overlaps[henhouse/omap.entry[henhouse/col.entry]]"], unfollowed := true, recurses := true, apart := false }
def CoreDeadSaid : Prop := coreDeadRow.holds Tryz.pinned (OpenSpec.ofChange coreDeadSpec)

/-- ITS FALSE NEIGHBOUR: 'it returns false'. Refute it at one input. -/
def coreDeadWrong : ChangeSpec := { name := "coreDead", fn := fun _ => fun
  | [d1, d2, d3, d4, d5, d6] => { results := [.lit (.bool false)], args := [d1, d2, d3, d4, d5, d6] }
  | _ => none }
def CoreDeadWrongFalsely : Prop := coreDeadRow.holds Tryz.pinned (OpenSpec.ofChange coreDeadWrong)

/-- 'henlaw27.CorePlays': WHATEVER THE INPUT: true; the input reads as it did. -/
def corePlaysSpec : ChangeSpec := { name := "corePlays", fn := fun _ => fun
  | [d1, d2] => { results := [.lit (.bool true)], args := [d1, d2] }
  | _ => none }
def corePlaysRow : OpenClaim := { program := "ytjfpfeapbcjioaagreat", sum := "b291858330dcd4b95b29c35c840ffc172a36cdb7a04a2a6d1e0c099f07664bd5", func := "henhouse/henlaw27.CorePlays", spec := "corePlays", inPlace := ["internal/bytealg.abigen_runtime_cmpstring", "slices.overlaps[henhouse/omap.entry[*henhouse/quota.Budget]]", "slices.overlaps[henhouse/omap.entry[int]]", "slices.overlaps[henhouse/omap.entry[henhouse/col.entry]]"], unfollowed := true, recurses := true, apart := false }
def CorePlaysSaid : Prop := corePlaysRow.holds Tryz.pinned (OpenSpec.ofChange corePlaysSpec)

/-- ITS FALSE NEIGHBOUR: 'it returns false'. Refute it at one input. -/
def corePlaysWrong : ChangeSpec := { name := "corePlays", fn := fun _ => fun
  | [d1, d2] => { results := [.lit (.bool false)], args := [d1, d2] }
  | _ => none }
def CorePlaysWrongFalsely : Prop := corePlaysRow.holds Tryz.pinned (OpenSpec.ofChange corePlaysWrong)

/- THE SECOND FORM. 'bulk': how many values and letters a reading holds, each counted each time it is reached (what is shared counts as often as it is met; a slice's spare places count too). A statement '..UptoSaid' is the law's where the arguments, and the package variables that the reading takes, are together of bulk at most 1048576: NARROWER than '..Said'. Prove '..Said' where nothing that the law and all that it calls make is longer than what came in: it says more and counts as full. Else prove '..UptoSaid'. A law counts once. -/
mutual
def uptoBulk {H : Type} : DataW H → Nat
  | .lit (.string bytes) => bytes.length + 1
  | .lit _ => 1
  | .nil => 1
  | .ptr d => uptoBulk d + 1
  | .slice elems spare => uptoBulkAll elems + uptoBulkAll spare + 1
  | .agg parts => uptoBulkAll parts + 1
  | .iface _ d => uptoBulk d + 1
  | .map entries => uptoBulkEntries entries + 1
  | .held _ => 1
def uptoBulkAll {H : Type} : List (DataW H) → Nat
  | [] => 0
  | d :: r => uptoBulk d + uptoBulkAll r
def uptoBulkEntries {H : Type} : List (Lit × DataW H) → Nat
  | [] => 0
  | x :: r => uptoBulkEntry x + uptoBulkEntries r
def uptoBulkEntry {H : Type} : Lit × DataW H → Nat
  | (.string bytes, d) => bytes.length + uptoBulk d + 1
  | (_, d) => uptoBulk d + 1
 end
def uptoSmall : (H : Type) → List (DataW H) → Bool := fun _ ds => decide (uptoBulkAll ds ≤ 1048576)
def OpenSpec.upto (s : _root_.Go.ChangeSpec) : _root_.Go.OpenSpec := { _root_.Go.OpenSpec.ofChange s with cond := some uptoSmall }

/-- 'henlaw27.CoreDrawn', WHERE WHAT IT READS IS OF BULK AT MOST 1048576: true; the input reads as it did. -/
def coreDrawnUptoRow : OpenClaim := { program := "ytjfpfeapbcjioaagreat", sum := "b291858330dcd4b95b29c35c840ffc172a36cdb7a04a2a6d1e0c099f07664bd5", func := "henhouse/henlaw27.CoreDrawn", spec := "coreDrawn", inPlace := ["internal/bytealg.abigen_runtime_cmpstring", "slices.overlaps[henhouse/omap.entry[*henhouse/quota.Budget]]", "slices.overlaps[henhouse/omap.entry[int]]", "slices.overlaps[henhouse/omap.entry[henhouse/col.entry]]"], unfollowed := true, recurses := true, apart := false, narrowed := true }
def CoreDrawnUptoSaid : Prop := coreDrawnUptoRow.holds Tryz.pinned (OpenSpec.upto coreDrawnSpec)

/-- 'henlaw27.CoreDead', WHERE WHAT IT READS IS OF BULK AT MOST 1048576: true; the input reads as it did. -/
def coreDeadUptoRow : OpenClaim := { program := "ytjfpfeapbcjioaagreat", sum := "b291858330dcd4b95b29c35c840ffc172a36cdb7a04a2a6d1e0c099f07664bd5", func := "henhouse/henlaw27.CoreDead", spec := "coreDead", inPlace := ["internal/bytealg.abigen_runtime_cmpstring", "slices.overlaps[henhouse/omap.entry[*henhouse/quota.Budget]]", "slices.overlaps[henhouse/omap.entry[int]]", "slices.overlaps[henhouse/omap.entry[henhouse/col.entry]]"], unfollowed := true, recurses := true, apart := false, narrowed := true }
def CoreDeadUptoSaid : Prop := coreDeadUptoRow.holds Tryz.pinned (OpenSpec.upto coreDeadSpec)

/-- 'henlaw27.CorePlays', WHERE WHAT IT READS IS OF BULK AT MOST 1048576: true; the input reads as it did. -/
def corePlaysUptoRow : OpenClaim := { program := "ytjfpfeapbcjioaagreat", sum := "b291858330dcd4b95b29c35c840ffc172a36cdb7a04a2a6d1e0c099f07664bd5", func := "henhouse/henlaw27.CorePlays", spec := "corePlays", inPlace := ["internal/bytealg.abigen_runtime_cmpstring", "slices.overlaps[henhouse/omap.entry[*henhouse/quota.Budget]]", "slices.overlaps[henhouse/omap.entry[int]]", "slices.overlaps[henhouse/omap.entry[henhouse/col.entry]]"], unfollowed := true, recurses := true, apart := false, narrowed := true }
def CorePlaysUptoSaid : Prop := corePlaysUptoRow.holds Tryz.pinned (OpenSpec.upto corePlaysSpec)

end Rows
end Go.Proofs.YtjfpfeapbcjioaaGreat
