/-
  No cell of these rows narrows 'for every input' (looked for: loops, veiled, ifaces, maps, wideKeys, modest, calm, conditions, laid).
  DERIVED. THE GIVEN ROWS OF THIS SEAT. 7 by the template 'for every input the law returns true; each argument reads behind the call as it read before'; 0 by the template 'total and deterministic' (their statements: YtlmfpadlgdmflaaTotals.lean).
  GIVEN WITH THE SEED: the statements are not yours to turn. If you find one false, say at which input.
  Laid BY PROGRAM, IN A SANDBOX (cutbox-rows.mjs): the forced cells as the released guide's own fill.sh prints them over the translation d37f31c599c088c6… (all of the seat's roots in one cut). By AI agents, Wed Nov 11 2026. No macro, syntax, notation, axiom, sorry.
-/
import Derived.Test.YtlmfpadlgdmflaaChecked
import GoSem.Claim
import GoSem.ClaimJoined
import GoSem.ClaimMapViews
import Derived.JoinedTies
import Derived.KernelRfl
namespace Go.Proofs.Ytlmfpadlgdmflaa
/- THE CELL 'sum', in the pinned program and in every row, IS THE sha256 OF THE DUMP (.gsa) THAT YtlmfpadlgdmflaaProg.lean LOADS. Nothing in Lean hashes anything: it is a label: what it is worth is what the hold of that sum in a sandbox is worth. -/
noncomputable def Try.pinned : Pinned := { name := "ytlmfpadlgdmflaa", sum := "d37f31c599c088c6d6daf2986639078faa51fb3366eabd600ac48ae1edad59ae", checked := Try.checked }
namespace Rows
def none {H : Type} : Left H := { results := [], args := [] }

/-- 'henlaw10.PackOne': WHATEVER THE INPUT: true; the input reads as it did. -/
def packOneSpec : ChangeSpec := { name := "packOne", fn := fun _ => fun
  | [d] => { results := [.lit (.bool true)], args := [d] }
  | _ => none }
def packOneRow : OpenClaim := { program := "ytlmfpadlgdmflaa", sum := "d37f31c599c088c6d6daf2986639078faa51fb3366eabd600ac48ae1edad59ae", func := "henhouse/henlaw10.PackOne", spec := "packOne", apart := false }
def PackOneSaid : Prop := packOneRow.holds Try.pinned (OpenSpec.ofChange packOneSpec)

/-- ITS FALSE NEIGHBOUR: 'it returns false'. Refute it at one input. -/
def packOneWrong : ChangeSpec := { name := "packOne", fn := fun _ => fun
  | [d] => { results := [.lit (.bool false)], args := [d] }
  | _ => none }
def PackOneWrongFalsely : Prop := packOneRow.holds Try.pinned (OpenSpec.ofChange packOneWrong)

/-- 'henlaw10.PackPuts': WHATEVER THE INPUT: true; the input reads as it did. -/
def packPutsSpec : ChangeSpec := { name := "packPuts", fn := fun _ => fun
  | [d1, d2, d3] => { results := [.lit (.bool true)], args := [d1, d2, d3] }
  | _ => none }
def packPutsRow : OpenClaim := { program := "ytlmfpadlgdmflaa", sum := "d37f31c599c088c6d6daf2986639078faa51fb3366eabd600ac48ae1edad59ae", func := "henhouse/henlaw10.PackPuts", spec := "packPuts", apart := false }
def PackPutsSaid : Prop := packPutsRow.holds Try.pinned (OpenSpec.ofChange packPutsSpec)

/-- ITS FALSE NEIGHBOUR: 'it returns false'. Refute it at one input. -/
def packPutsWrong : ChangeSpec := { name := "packPuts", fn := fun _ => fun
  | [d1, d2, d3] => { results := [.lit (.bool false)], args := [d1, d2, d3] }
  | _ => none }
def PackPutsWrongFalsely : Prop := packPutsRow.holds Try.pinned (OpenSpec.ofChange packPutsWrong)

/-- 'henlaw10.PackBack': WHATEVER THE INPUT: true; the input reads as it did. -/
def packBackSpec : ChangeSpec := { name := "packBack", fn := fun _ => fun
  | [d1, d2, d3] => { results := [.lit (.bool true)], args := [d1, d2, d3] }
  | _ => none }
def packBackRow : OpenClaim := { program := "ytlmfpadlgdmflaa", sum := "d37f31c599c088c6d6daf2986639078faa51fb3366eabd600ac48ae1edad59ae", func := "henhouse/henlaw10.PackBack", spec := "packBack", apart := false }
def PackBackSaid : Prop := packBackRow.holds Try.pinned (OpenSpec.ofChange packBackSpec)

/-- ITS FALSE NEIGHBOUR: 'it returns false'. Refute it at one input. -/
def packBackWrong : ChangeSpec := { name := "packBack", fn := fun _ => fun
  | [d1, d2, d3] => { results := [.lit (.bool false)], args := [d1, d2, d3] }
  | _ => none }
def PackBackWrongFalsely : Prop := packBackRow.holds Try.pinned (OpenSpec.ofChange packBackWrong)

/-- 'henlaw13.RespTells': WHATEVER THE INPUT: true; the input reads as it did. -/
def respTellsSpec : ChangeSpec := { name := "respTells", fn := fun _ => fun
  | [d1, d2, d3] => { results := [.lit (.bool true)], args := [d1, d2, d3] }
  | _ => none }
def respTellsRow : OpenClaim := { program := "ytlmfpadlgdmflaa", sum := "d37f31c599c088c6d6daf2986639078faa51fb3366eabd600ac48ae1edad59ae", func := "henhouse/henlaw13.RespTells", spec := "respTells", apart := false }
def RespTellsSaid : Prop := respTellsRow.holds Try.pinned (OpenSpec.ofChange respTellsSpec)

/-- ITS FALSE NEIGHBOUR: 'it returns false'. Refute it at one input. -/
def respTellsWrong : ChangeSpec := { name := "respTells", fn := fun _ => fun
  | [d1, d2, d3] => { results := [.lit (.bool false)], args := [d1, d2, d3] }
  | _ => none }
def RespTellsWrongFalsely : Prop := respTellsRow.holds Try.pinned (OpenSpec.ofChange respTellsWrong)

/-- 'henlaw13.RespBack': WHATEVER THE INPUT: true; the input reads as it did. -/
def respBackSpec : ChangeSpec := { name := "respBack", fn := fun _ => fun
  | [d1, d2, d3] => { results := [.lit (.bool true)], args := [d1, d2, d3] }
  | _ => none }
def respBackRow : OpenClaim := { program := "ytlmfpadlgdmflaa", sum := "d37f31c599c088c6d6daf2986639078faa51fb3366eabd600ac48ae1edad59ae", func := "henhouse/henlaw13.RespBack", spec := "respBack", apart := false }
def RespBackSaid : Prop := respBackRow.holds Try.pinned (OpenSpec.ofChange respBackSpec)

/-- ITS FALSE NEIGHBOUR: 'it returns false'. Refute it at one input. -/
def respBackWrong : ChangeSpec := { name := "respBack", fn := fun _ => fun
  | [d1, d2, d3] => { results := [.lit (.bool false)], args := [d1, d2, d3] }
  | _ => none }
def RespBackWrongFalsely : Prop := respBackRow.holds Try.pinned (OpenSpec.ofChange respBackWrong)

/-- 'henlaw13.RespCut': WHATEVER THE INPUT: true; the input reads as it did. -/
def respCutSpec : ChangeSpec := { name := "respCut", fn := fun _ => fun
  | [d1, d2, d3] => { results := [.lit (.bool true)], args := [d1, d2, d3] }
  | _ => none }
def respCutRow : OpenClaim := { program := "ytlmfpadlgdmflaa", sum := "d37f31c599c088c6d6daf2986639078faa51fb3366eabd600ac48ae1edad59ae", func := "henhouse/henlaw13.RespCut", spec := "respCut", apart := false }
def RespCutSaid : Prop := respCutRow.holds Try.pinned (OpenSpec.ofChange respCutSpec)

/-- ITS FALSE NEIGHBOUR: 'it returns false'. Refute it at one input. -/
def respCutWrong : ChangeSpec := { name := "respCut", fn := fun _ => fun
  | [d1, d2, d3] => { results := [.lit (.bool false)], args := [d1, d2, d3] }
  | _ => none }
def RespCutWrongFalsely : Prop := respCutRow.holds Try.pinned (OpenSpec.ofChange respCutWrong)

/-- 'henlaw13.RespItems': WHATEVER THE INPUT: true; the input reads as it did. -/
def respItemsSpec : ChangeSpec := { name := "respItems", fn := fun _ => fun
  | [d1, d2] => { results := [.lit (.bool true)], args := [d1, d2] }
  | _ => none }
def respItemsRow : OpenClaim := { program := "ytlmfpadlgdmflaa", sum := "d37f31c599c088c6d6daf2986639078faa51fb3366eabd600ac48ae1edad59ae", func := "henhouse/henlaw13.RespItems", spec := "respItems", apart := false }
def RespItemsSaid : Prop := respItemsRow.holds Try.pinned (OpenSpec.ofChange respItemsSpec)

/-- ITS FALSE NEIGHBOUR: 'it returns false'. Refute it at one input. -/
def respItemsWrong : ChangeSpec := { name := "respItems", fn := fun _ => fun
  | [d1, d2] => { results := [.lit (.bool false)], args := [d1, d2] }
  | _ => none }
def RespItemsWrongFalsely : Prop := respItemsRow.holds Try.pinned (OpenSpec.ofChange respItemsWrong)

/- THE SECOND FORM. 'bulk': how many values and letters a reading holds, each counted each time it is reached (what is shared counts as often as it is met; a slice's spare places count too). A statement '..UptoSaid' is the law's where the arguments, and the package variables that the reading takes, are together of bulk at most 1048576: NARROWER than '..Said'. Prove '..Said' where nothing that the law and all that it calls make is longer than what came in: it says more and counts as full. Else prove '..UptoSaid'. A law counts once. -/
mutual
def uptoBulk {H : Type} : DataW H → Nat
  | .lit (.string bytes) => bytes.length + 1
  | .lit _ => 1
  | .nil => 1
  | .ptr d => uptoBulk d + 1
  | .slice elems spare => uptoBulkAll elems + uptoBulkAll spare + 1
  | .agg parts => uptoBulkAll parts + 1
  | .iface _ d => uptoBulk d + 1
  | .map entries => uptoBulkEntries entries + 1
  | .held _ => 1
def uptoBulkAll {H : Type} : List (DataW H) → Nat
  | [] => 0
  | d :: r => uptoBulk d + uptoBulkAll r
def uptoBulkEntries {H : Type} : List (Lit × DataW H) → Nat
  | [] => 0
  | x :: r => uptoBulkEntry x + uptoBulkEntries r
def uptoBulkEntry {H : Type} : Lit × DataW H → Nat
  | (.string bytes, d) => bytes.length + uptoBulk d + 1
  | (_, d) => uptoBulk d + 1
 end
def uptoSmall : (H : Type) → List (DataW H) → Bool := fun _ ds => decide (uptoBulkAll ds ≤ 1048576)
def OpenSpec.upto (s : _root_.Go.ChangeSpec) : _root_.Go.OpenSpec := { _root_.Go.OpenSpec.ofChange s with cond := some uptoSmall }

/-- 'henlaw10.PackOne', WHERE WHAT IT READS IS OF BULK AT MOST 1048576: true; the input reads as it did. -/
def packOneUptoRow : OpenClaim := { program := "ytlmfpadlgdmflaa", sum := "d37f31c599c088c6d6daf2986639078faa51fb3366eabd600ac48ae1edad59ae", func := "henhouse/henlaw10.PackOne", spec := "packOne", apart := false, narrowed := true }
def PackOneUptoSaid : Prop := packOneUptoRow.holds Try.pinned (OpenSpec.upto packOneSpec)

/-- 'henlaw10.PackPuts', WHERE WHAT IT READS IS OF BULK AT MOST 1048576: true; the input reads as it did. -/
def packPutsUptoRow : OpenClaim := { program := "ytlmfpadlgdmflaa", sum := "d37f31c599c088c6d6daf2986639078faa51fb3366eabd600ac48ae1edad59ae", func := "henhouse/henlaw10.PackPuts", spec := "packPuts", apart := false, narrowed := true }
def PackPutsUptoSaid : Prop := packPutsUptoRow.holds Try.pinned (OpenSpec.upto packPutsSpec)

/-- 'henlaw10.PackBack', WHERE WHAT IT READS IS OF BULK AT MOST 1048576: true; the input reads as it did. -/
def packBackUptoRow : OpenClaim := { program := "ytlmfpadlgdmflaa", sum := "d37f31c599c088c6d6daf2986639078faa51fb3366eabd600ac48ae1edad59ae", func := "henhouse/henlaw10.PackBack", spec := "packBack", apart := false, narrowed := true }
def PackBackUptoSaid : Prop := packBackUptoRow.holds Try.pinned (OpenSpec.upto packBackSpec)

/-- 'henlaw13.RespTells', WHERE WHAT IT READS IS OF BULK AT MOST 1048576: true; the input reads as it did. -/
def respTellsUptoRow : OpenClaim := { program := "ytlmfpadlgdmflaa", sum := "d37f31c599c088c6d6daf2986639078faa51fb3366eabd600ac48ae1edad59ae", func := "henhouse/henlaw13.RespTells", spec := "respTells", apart := false, narrowed := true }
def RespTellsUptoSaid : Prop := respTellsUptoRow.holds Try.pinned (OpenSpec.upto respTellsSpec)

/-- 'henlaw13.RespBack', WHERE WHAT IT READS IS OF BULK AT MOST 1048576: true; the input reads as it did. -/
def respBackUptoRow : OpenClaim := { program := "ytlmfpadlgdmflaa", sum := "d37f31c599c088c6d6daf2986639078faa51fb3366eabd600ac48ae1edad59ae", func := "henhouse/henlaw13.RespBack", spec := "respBack", apart := false, narrowed := true }
def RespBackUptoSaid : Prop := respBackUptoRow.holds Try.pinned (OpenSpec.upto respBackSpec)

/-- 'henlaw13.RespCut', WHERE WHAT IT READS IS OF BULK AT MOST 1048576: true; the input reads as it did. -/
def respCutUptoRow : OpenClaim := { program := "ytlmfpadlgdmflaa", sum := "d37f31c599c088c6d6daf2986639078faa51fb3366eabd600ac48ae1edad59ae", func := "henhouse/henlaw13.RespCut", spec := "respCut", apart := false, narrowed := true }
def RespCutUptoSaid : Prop := respCutUptoRow.holds Try.pinned (OpenSpec.upto respCutSpec)

/-- 'henlaw13.RespItems', WHERE WHAT IT READS IS OF BULK AT MOST 1048576: true; the input reads as it did. -/
def respItemsUptoRow : OpenClaim := { program := "ytlmfpadlgdmflaa", sum := "d37f31c599c088c6d6daf2986639078faa51fb3366eabd600ac48ae1edad59ae", func := "henhouse/henlaw13.RespItems", spec := "respItems", apart := false, narrowed := true }
def RespItemsUptoSaid : Prop := respItemsUptoRow.holds Try.pinned (OpenSpec.upto respItemsSpec)

end Rows
end Go.Proofs.Ytlmfpadlgdmflaa
