/-
  No cell of these rows narrows 'for every input' (looked for: loops, veiled, ifaces, maps, wideKeys, modest, calm, conditions, laid).
  DERIVED. THE GIVEN ROWS OF THIS SEAT. 4 by the template 'for every input the law returns true; each argument reads behind the call as it read before'; 0 by the template 'total and deterministic' (their statements: YtdgfefnaoionpaaTotals.lean).
  GIVEN WITH THE SEED: the statements are not yours to turn. If you find one false, say at which input.
  Laid BY PROGRAM, IN A SANDBOX (cutbox-rows.mjs): the forced cells as the released guide's own fill.sh prints them over the translation 554e57cb89b49a6e… (all of the seat's roots in one cut). By AI agents, Wed Nov 11 2026. No macro, syntax, notation, axiom, sorry.
-/
import Derived.Test.YtdgfefnaoionpaaChecked
import GoSem.Claim
import GoSem.ClaimJoined
import GoSem.ClaimMapViews
import Derived.JoinedTies
import Derived.KernelRfl
namespace Go.Proofs.Ytdgfefnaoionpaa
/- THE CELL 'sum', in the pinned program and in every row, IS THE sha256 OF THE DUMP (.gsa) THAT YtdgfefnaoionpaaProg.lean LOADS. Nothing in Lean hashes anything: it is a label: what it is worth is what the hold of that sum in a sandbox is worth. -/
noncomputable def Try.pinned : Pinned := { name := "ytdgfefnaoionpaa", sum := "554e57cb89b49a6eeeaf335adac6a5a9fcdfdc06d015ba3f0989aaba42179488", checked := Try.checked }
namespace Rows
def none {H : Type} : Left H := { results := [], args := [] }

/-- 'henlaw14.OmapKeys': WHATEVER THE INPUT: true; the input reads as it did. -/
def omapKeysSpec : ChangeSpec := { name := "omapKeys", fn := fun _ => fun
  | [d] => { results := [.lit (.bool true)], args := [d] }
  | _ => none }
def omapKeysRow : OpenClaim := { program := "ytdgfefnaoionpaa", sum := "554e57cb89b49a6eeeaf335adac6a5a9fcdfdc06d015ba3f0989aaba42179488", func := "henhouse/henlaw14.OmapKeys", spec := "omapKeys", inPlace := ["internal/bytealg.abigen_runtime_cmpstring", "slices.overlaps[henhouse/omap.entry[int64]]"], unfollowed := true, recurses := true, apart := false }
def OmapKeysSaid : Prop := omapKeysRow.holds Try.pinned (OpenSpec.ofChange omapKeysSpec)

/-- ITS FALSE NEIGHBOUR: 'it returns false'. Refute it at one input. -/
def omapKeysWrong : ChangeSpec := { name := "omapKeys", fn := fun _ => fun
  | [d] => { results := [.lit (.bool false)], args := [d] }
  | _ => none }
def OmapKeysWrongFalsely : Prop := omapKeysRow.holds Try.pinned (OpenSpec.ofChange omapKeysWrong)

/-- 'henlaw14.OmapWalks': WHATEVER THE INPUT: true; the input reads as it did. -/
def omapWalksSpec : ChangeSpec := { name := "omapWalks", fn := fun _ => fun
  | [d1, d2, d3] => { results := [.lit (.bool true)], args := [d1, d2, d3] }
  | _ => none }
def omapWalksRow : OpenClaim := { program := "ytdgfefnaoionpaa", sum := "554e57cb89b49a6eeeaf335adac6a5a9fcdfdc06d015ba3f0989aaba42179488", func := "henhouse/henlaw14.OmapWalks", spec := "omapWalks", inPlace := ["internal/bytealg.abigen_runtime_cmpstring", "slices.overlaps[henhouse/omap.entry[int64]]"], unfollowed := true, recurses := true, apart := false }
def OmapWalksSaid : Prop := omapWalksRow.holds Try.pinned (OpenSpec.ofChange omapWalksSpec)

/-- ITS FALSE NEIGHBOUR: 'it returns false'. Refute it at one input. -/
def omapWalksWrong : ChangeSpec := { name := "omapWalks", fn := fun _ => fun
  | [d1, d2, d3] => { results := [.lit (.bool false)], args := [d1, d2, d3] }
  | _ => none }
def OmapWalksWrongFalsely : Prop := omapWalksRow.holds Try.pinned (OpenSpec.ofChange omapWalksWrong)

/-- 'henlaw14.OmapPlays': WHATEVER THE INPUT: true; the input reads as it did. -/
def omapPlaysSpec : ChangeSpec := { name := "omapPlays", fn := fun _ => fun
  | [d1, d2] => { results := [.lit (.bool true)], args := [d1, d2] }
  | _ => none }
def omapPlaysRow : OpenClaim := { program := "ytdgfefnaoionpaa", sum := "554e57cb89b49a6eeeaf335adac6a5a9fcdfdc06d015ba3f0989aaba42179488", func := "henhouse/henlaw14.OmapPlays", spec := "omapPlays", inPlace := ["internal/bytealg.abigen_runtime_cmpstring", "slices.overlaps[henhouse/omap.entry[int64]]"], unfollowed := true, recurses := true, apart := false }
def OmapPlaysSaid : Prop := omapPlaysRow.holds Try.pinned (OpenSpec.ofChange omapPlaysSpec)

/-- ITS FALSE NEIGHBOUR: 'it returns false'. Refute it at one input. -/
def omapPlaysWrong : ChangeSpec := { name := "omapPlays", fn := fun _ => fun
  | [d1, d2] => { results := [.lit (.bool false)], args := [d1, d2] }
  | _ => none }
def OmapPlaysWrongFalsely : Prop := omapPlaysRow.holds Try.pinned (OpenSpec.ofChange omapPlaysWrong)

/-- 'henlaw14.OmapTexts': WHATEVER THE INPUT: true; the input reads as it did. -/
def omapTextsSpec : ChangeSpec := { name := "omapTexts", fn := fun _ => fun
  | [d] => { results := [.lit (.bool true)], args := [d] }
  | _ => none }
def omapTextsRow : OpenClaim := { program := "ytdgfefnaoionpaa", sum := "554e57cb89b49a6eeeaf335adac6a5a9fcdfdc06d015ba3f0989aaba42179488", func := "henhouse/henlaw14.OmapTexts", spec := "omapTexts", inPlace := ["internal/bytealg.abigen_runtime_cmpstring", "slices.overlaps[henhouse/omap.entry[int64]]", "slices.overlaps[henhouse/omap.entry[string]]"], unfollowed := true, recurses := true, apart := false }
def OmapTextsSaid : Prop := omapTextsRow.holds Try.pinned (OpenSpec.ofChange omapTextsSpec)

/-- ITS FALSE NEIGHBOUR: 'it returns false'. Refute it at one input. -/
def omapTextsWrong : ChangeSpec := { name := "omapTexts", fn := fun _ => fun
  | [d] => { results := [.lit (.bool false)], args := [d] }
  | _ => none }
def OmapTextsWrongFalsely : Prop := omapTextsRow.holds Try.pinned (OpenSpec.ofChange omapTextsWrong)

/- THE SECOND FORM. 'bulk': how many values and letters a reading holds, each counted each time it is reached (what is shared counts as often as it is met; a slice's spare places count too). A statement '..UptoSaid' is the law's where the arguments, and the package variables that the reading takes, are together of bulk at most 1048576: NARROWER than '..Said'. Prove '..Said' where nothing that the law and all that it calls make is longer than what came in: it says more and counts as full. Else prove '..UptoSaid'. A law counts once. -/
mutual
def uptoBulk {H : Type} : DataW H → Nat
  | .lit (.string bytes) => bytes.length + 1
  | .lit _ => 1
  | .nil => 1
  | .ptr d => uptoBulk d + 1
  | .slice elems spare => uptoBulkAll elems + uptoBulkAll spare + 1
  | .agg parts => uptoBulkAll parts + 1
  | .iface _ d => uptoBulk d + 1
  | .map entries => uptoBulkEntries entries + 1
  | .held _ => 1
def uptoBulkAll {H : Type} : List (DataW H) → Nat
  | [] => 0
  | d :: r => uptoBulk d + uptoBulkAll r
def uptoBulkEntries {H : Type} : List (Lit × DataW H) → Nat
  | [] => 0
  | x :: r => uptoBulkEntry x + uptoBulkEntries r
def uptoBulkEntry {H : Type} : Lit × DataW H → Nat
  | (.string bytes, d) => bytes.length + uptoBulk d + 1
  | (_, d) => uptoBulk d + 1
 end
def uptoSmall : (H : Type) → List (DataW H) → Bool := fun _ ds => decide (uptoBulkAll ds ≤ 1048576)
def OpenSpec.upto (s : _root_.Go.ChangeSpec) : _root_.Go.OpenSpec := { _root_.Go.OpenSpec.ofChange s with cond := some uptoSmall }

/-- 'henlaw14.OmapKeys', WHERE WHAT IT READS IS OF BULK AT MOST 1048576: true; the input reads as it did. -/
def omapKeysUptoRow : OpenClaim := { program := "ytdgfefnaoionpaa", sum := "554e57cb89b49a6eeeaf335adac6a5a9fcdfdc06d015ba3f0989aaba42179488", func := "henhouse/henlaw14.OmapKeys", spec := "omapKeys", inPlace := ["internal/bytealg.abigen_runtime_cmpstring", "slices.overlaps[henhouse/omap.entry[int64]]"], unfollowed := true, recurses := true, apart := false, narrowed := true }
def OmapKeysUptoSaid : Prop := omapKeysUptoRow.holds Try.pinned (OpenSpec.upto omapKeysSpec)

/-- 'henlaw14.OmapWalks', WHERE WHAT IT READS IS OF BULK AT MOST 1048576: true; the input reads as it did. -/
def omapWalksUptoRow : OpenClaim := { program := "ytdgfefnaoionpaa", sum := "554e57cb89b49a6eeeaf335adac6a5a9fcdfdc06d015ba3f0989aaba42179488", func := "henhouse/henlaw14.OmapWalks", spec := "omapWalks", inPlace := ["internal/bytealg.abigen_runtime_cmpstring", "slices.overlaps[henhouse/omap.entry[int64]]"], unfollowed := true, recurses := true, apart := false, narrowed := true }
def OmapWalksUptoSaid : Prop := omapWalksUptoRow.holds Try.pinned (OpenSpec.upto omapWalksSpec)

/-- 'henlaw14.OmapPlays', WHERE WHAT IT READS IS OF BULK AT MOST 1048576: true; the input reads as it did. -/
def omapPlaysUptoRow : OpenClaim := { program := "ytdgfefnaoionpaa", sum := "554e57cb89b49a6eeeaf335adac6a5a9fcdfdc06d015ba3f0989aaba42179488", func := "henhouse/henlaw14.OmapPlays", spec := "omapPlays", inPlace := ["internal/bytealg.abigen_runtime_cmpstring", "slices.overlaps[henhouse/omap.entry[int64]]"], unfollowed := true, recurses := true, apart := false, narrowed := true }
def OmapPlaysUptoSaid : Prop := omapPlaysUptoRow.holds Try.pinned (OpenSpec.upto omapPlaysSpec)

/-- 'henlaw14.OmapTexts', WHERE WHAT IT READS IS OF BULK AT MOST 1048576: true; the input reads as it did. -/
def omapTextsUptoRow : OpenClaim := { program := "ytdgfefnaoionpaa", sum := "554e57cb89b49a6eeeaf335adac6a5a9fcdfdc06d015ba3f0989aaba42179488", func := "henhouse/henlaw14.OmapTexts", spec := "omapTexts", inPlace := ["internal/bytealg.abigen_runtime_cmpstring", "slices.overlaps[henhouse/omap.entry[int64]]", "slices.overlaps[henhouse/omap.entry[string]]"], unfollowed := true, recurses := true, apart := false, narrowed := true }
def OmapTextsUptoSaid : Prop := omapTextsUptoRow.holds Try.pinned (OpenSpec.upto omapTextsSpec)

end Rows
end Go.Proofs.Ytdgfefnaoionpaa
