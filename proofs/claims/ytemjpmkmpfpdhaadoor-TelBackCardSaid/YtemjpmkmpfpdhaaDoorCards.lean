/-
  DERIVED. GIVEN WITH THE SEED: THE CARDS: each row of YtemjpmkmpfpdhaaDoorRows.lean that lists a variable, with what it lists TIED to the program's text (the seventh form; the later family's looks); each row that meets fmt, with fmt's text TOLD by the authors' own Lean function (tested against real Go, not proved from fmt's source: count such statements apart). THE CARD IS WHAT COUNTS. Prove the row's statement (the work); the ties are given (YtemjpmkmpfpdhaaDoorTie.lean); close each card by the builder's one call (the guide's Derived/Test/ToyasCard.lean, 'card_holds'). Laid BY PROGRAM, IN A SANDBOX (cutbox-door.mjs). By AI agents, Wed Nov 11 2026. No macro, syntax, notation, axiom, sorry.
-/
import Derived.Test.YtemjpmkmpfpdhaaDoorRows
import GoSem.ClaimSeven
namespace Go.Proofs.YtemjpmkmpfpdhaaDoor
namespace Rows

/-- THE TIED CARD OF 'henlaw2.FoldTells'. -/
def foldTellsCard : Claim7 := { stood := { row := foldTellsRow, standIns := [], harness := (true, "57fcdc135927ec9edeee35be85b3bceeaaa11090b28f19bdb2b85747dadd7130"), looks := false }, kinds := [], alts := [], laidByText := true, laidKinds := [.data, .pinned], laidTests := true, laidLooks := .later }
def FoldTellsCardSaid : Prop := Claim7.holds Tryd.pinned (.plain (OpenSpec.ofChange foldTellsSpec)) foldTellsCard

/-- THE TIED CARD OF 'henlaw2.FoldOnce'. -/
def foldOnceCard : Claim7 := { stood := { row := foldOnceRow, standIns := [], harness := (true, "57fcdc135927ec9edeee35be85b3bceeaaa11090b28f19bdb2b85747dadd7130"), looks := false }, kinds := [], alts := [], laidByText := true, laidKinds := [.data, .pinned], laidTests := true, laidLooks := .later }
def FoldOnceCardSaid : Prop := Claim7.holds Tryd.pinned (.plain (OpenSpec.ofChange foldOnceSpec)) foldOnceCard

/-- THE TIED CARD OF 'henlaw2.FoldOrders'. -/
def foldOrdersCard : Claim7 := { stood := { row := foldOrdersRow, standIns := [], harness := (true, "57fcdc135927ec9edeee35be85b3bceeaaa11090b28f19bdb2b85747dadd7130"), looks := false }, kinds := [], alts := [], laidByText := true, laidKinds := [.data, .pinned], laidTests := true, laidLooks := .later }
def FoldOrdersCardSaid : Prop := Claim7.holds Tryd.pinned (.plain (OpenSpec.ofChange foldOrdersSpec)) foldOrdersCard

/-- THE TIED CARD OF 'henlaw2.FoldSigns'. -/
def foldSignsCard : Claim7 := { stood := { row := foldSignsRow, standIns := [], harness := (true, "57fcdc135927ec9edeee35be85b3bceeaaa11090b28f19bdb2b85747dadd7130"), looks := false }, kinds := [], alts := [], laidByText := true, laidKinds := [.data, .pinned], laidTests := true, laidLooks := .later }
def FoldSignsCardSaid : Prop := Claim7.holds Tryd.pinned (.plain (OpenSpec.ofChange foldSignsSpec)) foldSignsCard

/-- THE TIED CARD OF 'henlaw3.TelBack'. -/
def telBackCard : Claim7 := { stood := { row := telBackRow, standIns := [], harness := (true, "57fcdc135927ec9edeee35be85b3bceeaaa11090b28f19bdb2b85747dadd7130"), looks := false }, kinds := [], alts := [], laidByText := true, laidKinds := [.data, .pinned], laidTests := true, laidLooks := .later }
def TelBackCardSaid : Prop := Claim7.holds Tryd.pinned (.plain (OpenSpec.ofChange telBackSpec)) telBackCard

/-- THE TIED CARD OF 'henlaw3.TelTells'. -/
def telTellsCard : Claim7 := { stood := { row := telTellsRow, standIns := [], harness := (true, "57fcdc135927ec9edeee35be85b3bceeaaa11090b28f19bdb2b85747dadd7130"), looks := false }, kinds := [], alts := [], laidByText := true, laidKinds := [.data, .pinned], laidTests := true, laidLooks := .later }
def TelTellsCardSaid : Prop := Claim7.holds Tryd.pinned (.plain (OpenSpec.ofChange telTellsSpec)) telTellsCard

/-- THE TIED CARD OF 'henlaw3.TelMatch'. -/
def telMatchCard : Claim7 := { stood := { row := telMatchRow, standIns := [], harness := (true, "57fcdc135927ec9edeee35be85b3bceeaaa11090b28f19bdb2b85747dadd7130"), looks := false }, kinds := [], alts := [], laidByText := true, laidKinds := [.data, .pinned], laidTests := true, laidLooks := .later }
def TelMatchCardSaid : Prop := Claim7.holds Tryd.pinned (.plain (OpenSpec.ofChange telMatchSpec)) telMatchCard

/-- THE SECOND FORM's CARD OF 'henlaw2.FoldTells'. -/
def foldTellsUptoCard : Claim7 := { stood := { row := foldTellsUptoRow, standIns := [], harness := (true, "57fcdc135927ec9edeee35be85b3bceeaaa11090b28f19bdb2b85747dadd7130"), looks := false }, kinds := [], alts := [], laidByText := true, laidKinds := [.data, .pinned], laidTests := true, laidLooks := .later }
def FoldTellsUptoCardSaid : Prop := Claim7.holds Tryd.pinned (.plain (OpenSpec.upto foldTellsSpec)) foldTellsUptoCard

/-- THE SECOND FORM's CARD OF 'henlaw2.FoldOnce'. -/
def foldOnceUptoCard : Claim7 := { stood := { row := foldOnceUptoRow, standIns := [], harness := (true, "57fcdc135927ec9edeee35be85b3bceeaaa11090b28f19bdb2b85747dadd7130"), looks := false }, kinds := [], alts := [], laidByText := true, laidKinds := [.data, .pinned], laidTests := true, laidLooks := .later }
def FoldOnceUptoCardSaid : Prop := Claim7.holds Tryd.pinned (.plain (OpenSpec.upto foldOnceSpec)) foldOnceUptoCard

/-- THE SECOND FORM's CARD OF 'henlaw2.FoldOrders'. -/
def foldOrdersUptoCard : Claim7 := { stood := { row := foldOrdersUptoRow, standIns := [], harness := (true, "57fcdc135927ec9edeee35be85b3bceeaaa11090b28f19bdb2b85747dadd7130"), looks := false }, kinds := [], alts := [], laidByText := true, laidKinds := [.data, .pinned], laidTests := true, laidLooks := .later }
def FoldOrdersUptoCardSaid : Prop := Claim7.holds Tryd.pinned (.plain (OpenSpec.upto foldOrdersSpec)) foldOrdersUptoCard

/-- THE SECOND FORM's CARD OF 'henlaw2.FoldSigns'. -/
def foldSignsUptoCard : Claim7 := { stood := { row := foldSignsUptoRow, standIns := [], harness := (true, "57fcdc135927ec9edeee35be85b3bceeaaa11090b28f19bdb2b85747dadd7130"), looks := false }, kinds := [], alts := [], laidByText := true, laidKinds := [.data, .pinned], laidTests := true, laidLooks := .later }
def FoldSignsUptoCardSaid : Prop := Claim7.holds Tryd.pinned (.plain (OpenSpec.upto foldSignsSpec)) foldSignsUptoCard

/-- THE SECOND FORM's CARD OF 'henlaw3.TelBack'. -/
def telBackUptoCard : Claim7 := { stood := { row := telBackUptoRow, standIns := [], harness := (true, "57fcdc135927ec9edeee35be85b3bceeaaa11090b28f19bdb2b85747dadd7130"), looks := false }, kinds := [], alts := [], laidByText := true, laidKinds := [.data, .pinned], laidTests := true, laidLooks := .later }
def TelBackUptoCardSaid : Prop := Claim7.holds Tryd.pinned (.plain (OpenSpec.upto telBackSpec)) telBackUptoCard

/-- THE SECOND FORM's CARD OF 'henlaw3.TelTells'. -/
def telTellsUptoCard : Claim7 := { stood := { row := telTellsUptoRow, standIns := [], harness := (true, "57fcdc135927ec9edeee35be85b3bceeaaa11090b28f19bdb2b85747dadd7130"), looks := false }, kinds := [], alts := [], laidByText := true, laidKinds := [.data, .pinned], laidTests := true, laidLooks := .later }
def TelTellsUptoCardSaid : Prop := Claim7.holds Tryd.pinned (.plain (OpenSpec.upto telTellsSpec)) telTellsUptoCard

/-- THE SECOND FORM's CARD OF 'henlaw3.TelMatch'. -/
def telMatchUptoCard : Claim7 := { stood := { row := telMatchUptoRow, standIns := [], harness := (true, "57fcdc135927ec9edeee35be85b3bceeaaa11090b28f19bdb2b85747dadd7130"), looks := false }, kinds := [], alts := [], laidByText := true, laidKinds := [.data, .pinned], laidTests := true, laidLooks := .later }
def TelMatchUptoCardSaid : Prop := Claim7.holds Tryd.pinned (.plain (OpenSpec.upto telMatchSpec)) telMatchUptoCard
end Rows
end Go.Proofs.YtemjpmkmpfpdhaaDoor
