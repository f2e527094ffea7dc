/-
  NARROWER THAN 'FOR EVERY INPUT', by the rows' own cells (each row's printed sentence says how): FoldTells: laid · FoldOnce: laid · FoldOrders: laid · FoldSigns: laid · TelBack: laid · TelTells: laid · TelMatch: laid.
  DERIVED. THE GIVEN ROWS OF THIS SEAT. 7 by the template 'for every input the law returns true; each argument reads behind the call as it read before'; 0 by the template 'total and deterministic' (their statements: YtemjpmkmpfpdhaaDoorTotals.lean).
  GIVEN WITH THE SEED: the statements are not yours to turn. If you find one false, say at which input.
  Laid BY PROGRAM, IN A SANDBOX (cutbox-rows.mjs): the forced cells as the released guide's own fill.sh prints them over the translation 8c6139050bd0f81d… (all of the seat's roots in one cut). By AI agents, Wed Nov 11 2026. No macro, syntax, notation, axiom, sorry.
-/
import Derived.Test.YtemjpmkmpfpdhaaDoorChecked
import GoSem.PinnedTables
import GoSem.Claim
import GoSem.ClaimJoined
import GoSem.ClaimMapViews
import Derived.JoinedTies
import Derived.KernelRfl
namespace Go.Proofs.YtemjpmkmpfpdhaaDoor
/- THE CELL 'sum', in the pinned program and in every row, IS THE sha256 OF THE DUMP (.gsa) THAT YtemjpmkmpfpdhaaDoorProg.lean LOADS. Nothing in Lean hashes anything: it is a label: what it is worth is what the hold of that sum in a sandbox is worth. -/
noncomputable def Tryd.pinned : Pinned := { name := "ytemjpmkmpfpdhaadoor", sum := "8c6139050bd0f81dbfb6c802bc8167276dfdff0ceecea7e8c207b9738fc948a9", checked := Tryd.checked }
namespace Rows
def none {H : Type} : Left H := { results := [], args := [] }

/- WHAT THE LISTED PACKAGE-LEVEL VARIABLES READ AS WHEN THE CALL BEGINS. Each datum BY PROGRAM (the guide's laid-datum.mjs) off the statement by which the dump's own 'gosem.cut.vars' lays the variable. In a bare row this is a premise. The card (YtemjpmkmpfpdhaaDoorCards.lean) ties it to the program's text. -/
def laid_unicode_utf8_acceptRanges {H : Type} : DataW H := .agg [.agg [.lit (.int .u8 128), .lit (.int .u8 191)], .agg [.lit (.int .u8 160), .lit (.int .u8 191)], .agg [.lit (.int .u8 128), .lit (.int .u8 159)], .agg [.lit (.int .u8 144), .lit (.int .u8 191)], .agg [.lit (.int .u8 128), .lit (.int .u8 143)], .agg [.lit (.int .u8 0), .lit (.int .u8 0)], .agg [.lit (.int .u8 0), .lit (.int .u8 0)], .agg [.lit (.int .u8 0), .lit (.int .u8 0)], .agg [.lit (.int .u8 0), .lit (.int .u8 0)], .agg [.lit (.int .u8 0), .lit (.int .u8 0)], .agg [.lit (.int .u8 0), .lit (.int .u8 0)], .agg [.lit (.int .u8 0), .lit (.int .u8 0)], .agg [.lit (.int .u8 0), .lit (.int .u8 0)], .agg [.lit (.int .u8 0), .lit (.int .u8 0)], .agg [.lit (.int .u8 0), .lit (.int .u8 0)], .agg [.lit (.int .u8 0), .lit (.int .u8 0)]]
/-- One of Go's own tables, pinned by name: the form's constant. -/
def laid_unicode_utf8_first : DataW Unit := Go.Pinned.utf8First

/-- 'henlaw2.FoldTells': WHATEVER THE INPUT: true; the input reads as it did. -/
def foldTellsSpec : ChangeSpec := { name := "foldTells", fn := fun _ => fun
  | [d1, d2] => { results := [.lit (.bool true)], args := [d1, d2] }
  | _ => none }
def foldTellsRow : OpenClaim := { program := "ytemjpmkmpfpdhaadoor", sum := "8c6139050bd0f81dbfb6c802bc8167276dfdff0ceecea7e8c207b9738fc948a9", func := "henhouse/henlaw2.FoldTells", spec := "foldTells", named := ["unicode/utf8.first", "unicode/utf8.acceptRanges"], apart := false, laid := [("unicode/utf8.acceptRanges", laid_unicode_utf8_acceptRanges), ("unicode/utf8.first", laid_unicode_utf8_first)] }
def FoldTellsSaid : Prop := foldTellsRow.holds Tryd.pinned (OpenSpec.ofChange foldTellsSpec)

/-- ITS FALSE NEIGHBOUR: 'it returns false'. Refute it at one input. -/
def foldTellsWrong : ChangeSpec := { name := "foldTells", fn := fun _ => fun
  | [d1, d2] => { results := [.lit (.bool false)], args := [d1, d2] }
  | _ => none }
def FoldTellsWrongFalsely : Prop := foldTellsRow.holds Tryd.pinned (OpenSpec.ofChange foldTellsWrong)

/-- 'henlaw2.FoldOnce': WHATEVER THE INPUT: true; the input reads as it did. -/
def foldOnceSpec : ChangeSpec := { name := "foldOnce", fn := fun _ => fun
  | [d1, d2] => { results := [.lit (.bool true)], args := [d1, d2] }
  | _ => none }
def foldOnceRow : OpenClaim := { program := "ytemjpmkmpfpdhaadoor", sum := "8c6139050bd0f81dbfb6c802bc8167276dfdff0ceecea7e8c207b9738fc948a9", func := "henhouse/henlaw2.FoldOnce", spec := "foldOnce", named := ["unicode/utf8.first", "unicode/utf8.acceptRanges"], apart := false, laid := [("unicode/utf8.acceptRanges", laid_unicode_utf8_acceptRanges), ("unicode/utf8.first", laid_unicode_utf8_first)] }
def FoldOnceSaid : Prop := foldOnceRow.holds Tryd.pinned (OpenSpec.ofChange foldOnceSpec)

/-- ITS FALSE NEIGHBOUR: 'it returns false'. Refute it at one input. -/
def foldOnceWrong : ChangeSpec := { name := "foldOnce", fn := fun _ => fun
  | [d1, d2] => { results := [.lit (.bool false)], args := [d1, d2] }
  | _ => none }
def FoldOnceWrongFalsely : Prop := foldOnceRow.holds Tryd.pinned (OpenSpec.ofChange foldOnceWrong)

/-- 'henlaw2.FoldOrders': WHATEVER THE INPUT: true; the input reads as it did. -/
def foldOrdersSpec : ChangeSpec := { name := "foldOrders", fn := fun _ => fun
  | [d1, d2, d3] => { results := [.lit (.bool true)], args := [d1, d2, d3] }
  | _ => none }
def foldOrdersRow : OpenClaim := { program := "ytemjpmkmpfpdhaadoor", sum := "8c6139050bd0f81dbfb6c802bc8167276dfdff0ceecea7e8c207b9738fc948a9", func := "henhouse/henlaw2.FoldOrders", spec := "foldOrders", named := ["unicode/utf8.first", "unicode/utf8.acceptRanges"], apart := false, laid := [("unicode/utf8.acceptRanges", laid_unicode_utf8_acceptRanges), ("unicode/utf8.first", laid_unicode_utf8_first)] }
def FoldOrdersSaid : Prop := foldOrdersRow.holds Tryd.pinned (OpenSpec.ofChange foldOrdersSpec)

/-- ITS FALSE NEIGHBOUR: 'it returns false'. Refute it at one input. -/
def foldOrdersWrong : ChangeSpec := { name := "foldOrders", fn := fun _ => fun
  | [d1, d2, d3] => { results := [.lit (.bool false)], args := [d1, d2, d3] }
  | _ => none }
def FoldOrdersWrongFalsely : Prop := foldOrdersRow.holds Tryd.pinned (OpenSpec.ofChange foldOrdersWrong)

/-- 'henlaw2.FoldSigns': WHATEVER THE INPUT: true; the input reads as it did. -/
def foldSignsSpec : ChangeSpec := { name := "foldSigns", fn := fun _ => fun
  | [d1, d2] => { results := [.lit (.bool true)], args := [d1, d2] }
  | _ => none }
def foldSignsRow : OpenClaim := { program := "ytemjpmkmpfpdhaadoor", sum := "8c6139050bd0f81dbfb6c802bc8167276dfdff0ceecea7e8c207b9738fc948a9", func := "henhouse/henlaw2.FoldSigns", spec := "foldSigns", named := ["unicode/utf8.first", "unicode/utf8.acceptRanges"], apart := false, laid := [("unicode/utf8.acceptRanges", laid_unicode_utf8_acceptRanges), ("unicode/utf8.first", laid_unicode_utf8_first)] }
def FoldSignsSaid : Prop := foldSignsRow.holds Tryd.pinned (OpenSpec.ofChange foldSignsSpec)

/-- ITS FALSE NEIGHBOUR: 'it returns false'. Refute it at one input. -/
def foldSignsWrong : ChangeSpec := { name := "foldSigns", fn := fun _ => fun
  | [d1, d2] => { results := [.lit (.bool false)], args := [d1, d2] }
  | _ => none }
def FoldSignsWrongFalsely : Prop := foldSignsRow.holds Tryd.pinned (OpenSpec.ofChange foldSignsWrong)

/-- 'henlaw3.TelBack': WHATEVER THE INPUT: true; the input reads as it did. -/
def telBackSpec : ChangeSpec := { name := "telBack", fn := fun _ => fun
  | [d1, d2, d3] => { results := [.lit (.bool true)], args := [d1, d2, d3] }
  | _ => none }
def telBackRow : OpenClaim := { program := "ytemjpmkmpfpdhaadoor", sum := "8c6139050bd0f81dbfb6c802bc8167276dfdff0ceecea7e8c207b9738fc948a9", func := "henhouse/henlaw3.TelBack", spec := "telBack", named := ["unicode/utf8.first", "unicode/utf8.acceptRanges"], apart := false, laid := [("unicode/utf8.acceptRanges", laid_unicode_utf8_acceptRanges), ("unicode/utf8.first", laid_unicode_utf8_first)] }
def TelBackSaid : Prop := telBackRow.holds Tryd.pinned (OpenSpec.ofChange telBackSpec)

/-- ITS FALSE NEIGHBOUR: 'it returns false'. Refute it at one input. -/
def telBackWrong : ChangeSpec := { name := "telBack", fn := fun _ => fun
  | [d1, d2, d3] => { results := [.lit (.bool false)], args := [d1, d2, d3] }
  | _ => none }
def TelBackWrongFalsely : Prop := telBackRow.holds Tryd.pinned (OpenSpec.ofChange telBackWrong)

/-- 'henlaw3.TelTells': WHATEVER THE INPUT: true; the input reads as it did. -/
def telTellsSpec : ChangeSpec := { name := "telTells", fn := fun _ => fun
  | [d1, d2] => { results := [.lit (.bool true)], args := [d1, d2] }
  | _ => none }
def telTellsRow : OpenClaim := { program := "ytemjpmkmpfpdhaadoor", sum := "8c6139050bd0f81dbfb6c802bc8167276dfdff0ceecea7e8c207b9738fc948a9", func := "henhouse/henlaw3.TelTells", spec := "telTells", inPlace := ["internal/bytealg.IndexByteString", "internal/bytealg.IndexString"], named := ["unicode/utf8.first", "unicode/utf8.acceptRanges", "internal/bytealg.MaxLen"], apart := false, laid := [("unicode/utf8.acceptRanges", laid_unicode_utf8_acceptRanges), ("unicode/utf8.first", laid_unicode_utf8_first)] }
def TelTellsSaid : Prop := telTellsRow.holds Tryd.pinned (OpenSpec.ofChange telTellsSpec)

/-- ITS FALSE NEIGHBOUR: 'it returns false'. Refute it at one input. -/
def telTellsWrong : ChangeSpec := { name := "telTells", fn := fun _ => fun
  | [d1, d2] => { results := [.lit (.bool false)], args := [d1, d2] }
  | _ => none }
def TelTellsWrongFalsely : Prop := telTellsRow.holds Tryd.pinned (OpenSpec.ofChange telTellsWrong)

/-- 'henlaw3.TelMatch': WHATEVER THE INPUT: true; the input reads as it did. -/
def telMatchSpec : ChangeSpec := { name := "telMatch", fn := fun _ => fun
  | [d1, d2, d3] => { results := [.lit (.bool true)], args := [d1, d2, d3] }
  | _ => none }
def telMatchRow : OpenClaim := { program := "ytemjpmkmpfpdhaadoor", sum := "8c6139050bd0f81dbfb6c802bc8167276dfdff0ceecea7e8c207b9738fc948a9", func := "henhouse/henlaw3.TelMatch", spec := "telMatch", inPlace := ["internal/bytealg.IndexByteString", "internal/bytealg.IndexString"], named := ["unicode/utf8.first", "unicode/utf8.acceptRanges", "internal/bytealg.MaxLen"], apart := false, laid := [("unicode/utf8.acceptRanges", laid_unicode_utf8_acceptRanges), ("unicode/utf8.first", laid_unicode_utf8_first)] }
def TelMatchSaid : Prop := telMatchRow.holds Tryd.pinned (OpenSpec.ofChange telMatchSpec)

/-- ITS FALSE NEIGHBOUR: 'it returns false'. Refute it at one input. -/
def telMatchWrong : ChangeSpec := { name := "telMatch", fn := fun _ => fun
  | [d1, d2, d3] => { results := [.lit (.bool false)], args := [d1, d2, d3] }
  | _ => none }
def TelMatchWrongFalsely : Prop := telMatchRow.holds Tryd.pinned (OpenSpec.ofChange telMatchWrong)

/- THE SECOND FORM. 'bulk': how many values and letters a reading holds, each counted each time it is reached (what is shared counts as often as it is met; a slice's spare places count too). A statement '..UptoSaid' is the law's where the arguments, and the package variables that the reading takes, are together of bulk at most 1048576: NARROWER than '..Said'. Prove '..Said' where nothing that the law and all that it calls make is longer than what came in: it says more and counts as full. Else prove '..UptoSaid'. A law counts once. -/
mutual
def uptoBulk {H : Type} : DataW H → Nat
  | .lit (.string bytes) => bytes.length + 1
  | .lit _ => 1
  | .nil => 1
  | .ptr d => uptoBulk d + 1
  | .slice elems spare => uptoBulkAll elems + uptoBulkAll spare + 1
  | .agg parts => uptoBulkAll parts + 1
  | .iface _ d => uptoBulk d + 1
  | .map entries => uptoBulkEntries entries + 1
  | .held _ => 1
def uptoBulkAll {H : Type} : List (DataW H) → Nat
  | [] => 0
  | d :: r => uptoBulk d + uptoBulkAll r
def uptoBulkEntries {H : Type} : List (Lit × DataW H) → Nat
  | [] => 0
  | x :: r => uptoBulkEntry x + uptoBulkEntries r
def uptoBulkEntry {H : Type} : Lit × DataW H → Nat
  | (.string bytes, d) => bytes.length + uptoBulk d + 1
  | (_, d) => uptoBulk d + 1
 end
def uptoSmall : (H : Type) → List (DataW H) → Bool := fun _ ds => decide (uptoBulkAll ds ≤ 1048576)
def OpenSpec.upto (s : _root_.Go.ChangeSpec) : _root_.Go.OpenSpec := { _root_.Go.OpenSpec.ofChange s with cond := some uptoSmall }

/-- 'henlaw2.FoldTells', WHERE WHAT IT READS IS OF BULK AT MOST 1048576: true; the input reads as it did. -/
def foldTellsUptoRow : OpenClaim := { program := "ytemjpmkmpfpdhaadoor", sum := "8c6139050bd0f81dbfb6c802bc8167276dfdff0ceecea7e8c207b9738fc948a9", func := "henhouse/henlaw2.FoldTells", spec := "foldTells", named := ["unicode/utf8.first", "unicode/utf8.acceptRanges"], apart := false, laid := [("unicode/utf8.acceptRanges", laid_unicode_utf8_acceptRanges), ("unicode/utf8.first", laid_unicode_utf8_first)], narrowed := true }
def FoldTellsUptoSaid : Prop := foldTellsUptoRow.holds Tryd.pinned (OpenSpec.upto foldTellsSpec)

/-- 'henlaw2.FoldOnce', WHERE WHAT IT READS IS OF BULK AT MOST 1048576: true; the input reads as it did. -/
def foldOnceUptoRow : OpenClaim := { program := "ytemjpmkmpfpdhaadoor", sum := "8c6139050bd0f81dbfb6c802bc8167276dfdff0ceecea7e8c207b9738fc948a9", func := "henhouse/henlaw2.FoldOnce", spec := "foldOnce", named := ["unicode/utf8.first", "unicode/utf8.acceptRanges"], apart := false, laid := [("unicode/utf8.acceptRanges", laid_unicode_utf8_acceptRanges), ("unicode/utf8.first", laid_unicode_utf8_first)], narrowed := true }
def FoldOnceUptoSaid : Prop := foldOnceUptoRow.holds Tryd.pinned (OpenSpec.upto foldOnceSpec)

/-- 'henlaw2.FoldOrders', WHERE WHAT IT READS IS OF BULK AT MOST 1048576: true; the input reads as it did. -/
def foldOrdersUptoRow : OpenClaim := { program := "ytemjpmkmpfpdhaadoor", sum := "8c6139050bd0f81dbfb6c802bc8167276dfdff0ceecea7e8c207b9738fc948a9", func := "henhouse/henlaw2.FoldOrders", spec := "foldOrders", named := ["unicode/utf8.first", "unicode/utf8.acceptRanges"], apart := false, laid := [("unicode/utf8.acceptRanges", laid_unicode_utf8_acceptRanges), ("unicode/utf8.first", laid_unicode_utf8_first)], narrowed := true }
def FoldOrdersUptoSaid : Prop := foldOrdersUptoRow.holds Tryd.pinned (OpenSpec.upto foldOrdersSpec)

/-- 'henlaw2.FoldSigns', WHERE WHAT IT READS IS OF BULK AT MOST 1048576: true; the input reads as it did. -/
def foldSignsUptoRow : OpenClaim := { program := "ytemjpmkmpfpdhaadoor", sum := "8c6139050bd0f81dbfb6c802bc8167276dfdff0ceecea7e8c207b9738fc948a9", func := "henhouse/henlaw2.FoldSigns", spec := "foldSigns", named := ["unicode/utf8.first", "unicode/utf8.acceptRanges"], apart := false, laid := [("unicode/utf8.acceptRanges", laid_unicode_utf8_acceptRanges), ("unicode/utf8.first", laid_unicode_utf8_first)], narrowed := true }
def FoldSignsUptoSaid : Prop := foldSignsUptoRow.holds Tryd.pinned (OpenSpec.upto foldSignsSpec)

/-- 'henlaw3.TelBack', WHERE WHAT IT READS IS OF BULK AT MOST 1048576: true; the input reads as it did. -/
def telBackUptoRow : OpenClaim := { program := "ytemjpmkmpfpdhaadoor", sum := "8c6139050bd0f81dbfb6c802bc8167276dfdff0ceecea7e8c207b9738fc948a9", func := "henhouse/henlaw3.TelBack", spec := "telBack", named := ["unicode/utf8.first", "unicode/utf8.acceptRanges"], apart := false, laid := [("unicode/utf8.acceptRanges", laid_unicode_utf8_acceptRanges), ("unicode/utf8.first", laid_unicode_utf8_first)], narrowed := true }
def TelBackUptoSaid : Prop := telBackUptoRow.holds Tryd.pinned (OpenSpec.upto telBackSpec)

/-- 'henlaw3.TelTells', WHERE WHAT IT READS IS OF BULK AT MOST 1048576: true; the input reads as it did. -/
def telTellsUptoRow : OpenClaim := { program := "ytemjpmkmpfpdhaadoor", sum := "8c6139050bd0f81dbfb6c802bc8167276dfdff0ceecea7e8c207b9738fc948a9", func := "henhouse/henlaw3.TelTells", spec := "telTells", inPlace := ["internal/bytealg.IndexByteString", "internal/bytealg.IndexString"], named := ["unicode/utf8.first", "unicode/utf8.acceptRanges", "internal/bytealg.MaxLen"], apart := false, laid := [("unicode/utf8.acceptRanges", laid_unicode_utf8_acceptRanges), ("unicode/utf8.first", laid_unicode_utf8_first)], narrowed := true }
def TelTellsUptoSaid : Prop := telTellsUptoRow.holds Tryd.pinned (OpenSpec.upto telTellsSpec)

/-- 'henlaw3.TelMatch', WHERE WHAT IT READS IS OF BULK AT MOST 1048576: true; the input reads as it did. -/
def telMatchUptoRow : OpenClaim := { program := "ytemjpmkmpfpdhaadoor", sum := "8c6139050bd0f81dbfb6c802bc8167276dfdff0ceecea7e8c207b9738fc948a9", func := "henhouse/henlaw3.TelMatch", spec := "telMatch", inPlace := ["internal/bytealg.IndexByteString", "internal/bytealg.IndexString"], named := ["unicode/utf8.first", "unicode/utf8.acceptRanges", "internal/bytealg.MaxLen"], apart := false, laid := [("unicode/utf8.acceptRanges", laid_unicode_utf8_acceptRanges), ("unicode/utf8.first", laid_unicode_utf8_first)], narrowed := true }
def TelMatchUptoSaid : Prop := telMatchUptoRow.holds Tryd.pinned (OpenSpec.upto telMatchSpec)

end Rows
end Go.Proofs.YtemjpmkmpfpdhaaDoor
