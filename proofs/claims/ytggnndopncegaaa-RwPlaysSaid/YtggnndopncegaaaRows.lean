/-
  No cell of these rows narrows 'for every input' (looked for: loops, veiled, ifaces, maps, wideKeys, modest, calm, conditions, laid).
  DERIVED. THE GIVEN ROWS OF THIS SEAT. 4 by the template 'for every input the law returns true; each argument reads behind the call as it read before'; 0 by the template 'total and deterministic' (their statements: YtggnndopncegaaaTotals.lean).
  GIVEN WITH THE SEED: the statements are not yours to turn. If you find one false, say at which input.
  Laid BY PROGRAM, IN A SANDBOX (cutbox-rows.mjs): the forced cells as the released guide's own fill.sh prints them over the translation 4f43c5e7ca363ea1… (all of the seat's roots in one cut). By AI agents, Wed Nov 11 2026. No macro, syntax, notation, axiom, sorry.
-/
import Derived.Test.YtggnndopncegaaaChecked
import GoSem.Claim
import GoSem.ClaimJoined
import GoSem.ClaimMapViews
import Derived.JoinedTies
import Derived.KernelRfl
namespace Go.Proofs.Ytggnndopncegaaa
/- THE CELL 'sum', in the pinned program and in every row, IS THE sha256 OF THE DUMP (.gsa) THAT YtggnndopncegaaaProg.lean LOADS. Nothing in Lean hashes anything: it is a label: what it is worth is what the hold of that sum in a sandbox is worth. -/
noncomputable def Try.pinned : Pinned := { name := "ytggnndopncegaaa", sum := "4f43c5e7ca363ea1fb1e51c5083a48e2cc99e5d83acc0457d0eb6edd68025d77", checked := Try.checked }
namespace Rows
def none {H : Type} : Left H := { results := [], args := [] }

/-- 'henlaw22.RwPlays': WHATEVER THE INPUT: true; the input reads as it did. -/
def rwPlaysSpec : ChangeSpec := { name := "rwPlays", fn := fun _ => fun
  | [d1, d2] => { results := [.lit (.bool true)], args := [d1, d2] }
  | _ => none }
def rwPlaysRow : OpenClaim := { program := "ytggnndopncegaaa", sum := "4f43c5e7ca363ea1fb1e51c5083a48e2cc99e5d83acc0457d0eb6edd68025d77", func := "henhouse/henlaw22.RwPlays", spec := "rwPlays", unfollowed := true, recurses := true, apart := false }
def RwPlaysSaid : Prop := rwPlaysRow.holds Try.pinned (OpenSpec.ofChange rwPlaysSpec)

/-- ITS FALSE NEIGHBOUR: 'it returns false'. Refute it at one input. -/
def rwPlaysWrong : ChangeSpec := { name := "rwPlays", fn := fun _ => fun
  | [d1, d2] => { results := [.lit (.bool false)], args := [d1, d2] }
  | _ => none }
def RwPlaysWrongFalsely : Prop := rwPlaysRow.holds Try.pinned (OpenSpec.ofChange rwPlaysWrong)

/-- 'henlaw22.RwAlone': WHATEVER THE INPUT: true; the input reads as it did. -/
def rwAloneSpec : ChangeSpec := { name := "rwAlone", fn := fun _ => fun
  | [d] => { results := [.lit (.bool true)], args := [d] }
  | _ => none }
def rwAloneRow : OpenClaim := { program := "ytggnndopncegaaa", sum := "4f43c5e7ca363ea1fb1e51c5083a48e2cc99e5d83acc0457d0eb6edd68025d77", func := "henhouse/henlaw22.RwAlone", spec := "rwAlone", unfollowed := true, recurses := true, apart := false }
def RwAloneSaid : Prop := rwAloneRow.holds Try.pinned (OpenSpec.ofChange rwAloneSpec)

/-- ITS FALSE NEIGHBOUR: 'it returns false'. Refute it at one input. -/
def rwAloneWrong : ChangeSpec := { name := "rwAlone", fn := fun _ => fun
  | [d] => { results := [.lit (.bool false)], args := [d] }
  | _ => none }
def RwAloneWrongFalsely : Prop := rwAloneRow.holds Try.pinned (OpenSpec.ofChange rwAloneWrong)

/-- 'henlaw22.RwTurns': WHATEVER THE INPUT: true; the input reads as it did. -/
def rwTurnsSpec : ChangeSpec := { name := "rwTurns", fn := fun _ => fun
  | [d] => { results := [.lit (.bool true)], args := [d] }
  | _ => none }
def rwTurnsRow : OpenClaim := { program := "ytggnndopncegaaa", sum := "4f43c5e7ca363ea1fb1e51c5083a48e2cc99e5d83acc0457d0eb6edd68025d77", func := "henhouse/henlaw22.RwTurns", spec := "rwTurns", unfollowed := true, recurses := true, apart := false }
def RwTurnsSaid : Prop := rwTurnsRow.holds Try.pinned (OpenSpec.ofChange rwTurnsSpec)

/-- ITS FALSE NEIGHBOUR: 'it returns false'. Refute it at one input. -/
def rwTurnsWrong : ChangeSpec := { name := "rwTurns", fn := fun _ => fun
  | [d] => { results := [.lit (.bool false)], args := [d] }
  | _ => none }
def RwTurnsWrongFalsely : Prop := rwTurnsRow.holds Try.pinned (OpenSpec.ofChange rwTurnsWrong)

/-- 'henlaw22.RwEnds': WHATEVER THE INPUT: true; the input reads as it did. -/
def rwEndsSpec : ChangeSpec := { name := "rwEnds", fn := fun _ => fun
  | [d] => { results := [.lit (.bool true)], args := [d] }
  | _ => none }
def rwEndsRow : OpenClaim := { program := "ytggnndopncegaaa", sum := "4f43c5e7ca363ea1fb1e51c5083a48e2cc99e5d83acc0457d0eb6edd68025d77", func := "henhouse/henlaw22.RwEnds", spec := "rwEnds", unfollowed := true, recurses := true, apart := false }
def RwEndsSaid : Prop := rwEndsRow.holds Try.pinned (OpenSpec.ofChange rwEndsSpec)

/-- ITS FALSE NEIGHBOUR: 'it returns false'. Refute it at one input. -/
def rwEndsWrong : ChangeSpec := { name := "rwEnds", fn := fun _ => fun
  | [d] => { results := [.lit (.bool false)], args := [d] }
  | _ => none }
def RwEndsWrongFalsely : Prop := rwEndsRow.holds Try.pinned (OpenSpec.ofChange rwEndsWrong)

/- THE SECOND FORM. 'bulk': how many values and letters a reading holds, each counted each time it is reached (what is shared counts as often as it is met; a slice's spare places count too). A statement '..UptoSaid' is the law's where the arguments, and the package variables that the reading takes, are together of bulk at most 1048576: NARROWER than '..Said'. Prove '..Said' where nothing that the law and all that it calls make is longer than what came in: it says more and counts as full. Else prove '..UptoSaid'. A law counts once. -/
mutual
def uptoBulk {H : Type} : DataW H → Nat
  | .lit (.string bytes) => bytes.length + 1
  | .lit _ => 1
  | .nil => 1
  | .ptr d => uptoBulk d + 1
  | .slice elems spare => uptoBulkAll elems + uptoBulkAll spare + 1
  | .agg parts => uptoBulkAll parts + 1
  | .iface _ d => uptoBulk d + 1
  | .map entries => uptoBulkEntries entries + 1
  | .held _ => 1
def uptoBulkAll {H : Type} : List (DataW H) → Nat
  | [] => 0
  | d :: r => uptoBulk d + uptoBulkAll r
def uptoBulkEntries {H : Type} : List (Lit × DataW H) → Nat
  | [] => 0
  | x :: r => uptoBulkEntry x + uptoBulkEntries r
def uptoBulkEntry {H : Type} : Lit × DataW H → Nat
  | (.string bytes, d) => bytes.length + uptoBulk d + 1
  | (_, d) => uptoBulk d + 1
 end
def uptoSmall : (H : Type) → List (DataW H) → Bool := fun _ ds => decide (uptoBulkAll ds ≤ 1048576)
def OpenSpec.upto (s : _root_.Go.ChangeSpec) : _root_.Go.OpenSpec := { _root_.Go.OpenSpec.ofChange s with cond := some uptoSmall }

/-- 'henlaw22.RwPlays', WHERE WHAT IT READS IS OF BULK AT MOST 1048576: true; the input reads as it did. -/
def rwPlaysUptoRow : OpenClaim := { program := "ytggnndopncegaaa", sum := "4f43c5e7ca363ea1fb1e51c5083a48e2cc99e5d83acc0457d0eb6edd68025d77", func := "henhouse/henlaw22.RwPlays", spec := "rwPlays", unfollowed := true, recurses := true, apart := false, narrowed := true }
def RwPlaysUptoSaid : Prop := rwPlaysUptoRow.holds Try.pinned (OpenSpec.upto rwPlaysSpec)

/-- 'henlaw22.RwAlone', WHERE WHAT IT READS IS OF BULK AT MOST 1048576: true; the input reads as it did. -/
def rwAloneUptoRow : OpenClaim := { program := "ytggnndopncegaaa", sum := "4f43c5e7ca363ea1fb1e51c5083a48e2cc99e5d83acc0457d0eb6edd68025d77", func := "henhouse/henlaw22.RwAlone", spec := "rwAlone", unfollowed := true, recurses := true, apart := false, narrowed := true }
def RwAloneUptoSaid : Prop := rwAloneUptoRow.holds Try.pinned (OpenSpec.upto rwAloneSpec)

/-- 'henlaw22.RwTurns', WHERE WHAT IT READS IS OF BULK AT MOST 1048576: true; the input reads as it did. -/
def rwTurnsUptoRow : OpenClaim := { program := "ytggnndopncegaaa", sum := "4f43c5e7ca363ea1fb1e51c5083a48e2cc99e5d83acc0457d0eb6edd68025d77", func := "henhouse/henlaw22.RwTurns", spec := "rwTurns", unfollowed := true, recurses := true, apart := false, narrowed := true }
def RwTurnsUptoSaid : Prop := rwTurnsUptoRow.holds Try.pinned (OpenSpec.upto rwTurnsSpec)

/-- 'henlaw22.RwEnds', WHERE WHAT IT READS IS OF BULK AT MOST 1048576: true; the input reads as it did. -/
def rwEndsUptoRow : OpenClaim := { program := "ytggnndopncegaaa", sum := "4f43c5e7ca363ea1fb1e51c5083a48e2cc99e5d83acc0457d0eb6edd68025d77", func := "henhouse/henlaw22.RwEnds", spec := "rwEnds", unfollowed := true, recurses := true, apart := false, narrowed := true }
def RwEndsUptoSaid : Prop := rwEndsUptoRow.holds Try.pinned (OpenSpec.upto rwEndsSpec)

end Rows
end Go.Proofs.Ytggnndopncegaaa
