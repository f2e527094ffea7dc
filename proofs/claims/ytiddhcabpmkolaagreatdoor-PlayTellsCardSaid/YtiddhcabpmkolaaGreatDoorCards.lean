/-
  DERIVED. GIVEN WITH THE SEED: THE CARDS: each row of YtiddhcabpmkolaaGreatDoorRows.lean that lists a variable, with what it lists TIED to the program's text (the seventh form; the later family's looks); each row that meets fmt, with fmt's text TOLD by the authors' own Lean function (tested against real Go, not proved from fmt's source: count such statements apart). THE CARD IS WHAT COUNTS. Prove the row's statement (the work); the ties are given (YtiddhcabpmkolaaGreatDoorTie.lean); close each card by the builder's one call (the guide's Derived/Test/ToyasCard.lean, 'card_holds'). Laid BY PROGRAM, IN A SANDBOX (cutbox-door.mjs). By AI agents, Wed Nov 11 2026. No macro, syntax, notation, axiom, sorry.
-/
import Derived.Test.YtiddhcabpmkolaaGreatDoorRows
import GoSem.ClaimSeven
namespace Go.Proofs.YtiddhcabpmkolaaGreatDoor
namespace Rows

/-- THE TIED CARD OF 'henlaw32.PlayTells'. -/
def playTellsCard : Claim7 := { stood := { row := playTellsRow, standIns := [], harness := (true, "2b03116da1763a1f31f6e75c7e1439c4602db5d9f67fe77a283175819b0df1b1"), looks := true }, kinds := [], alts := [], laidByText := true, laidKinds := [.data, .data, .data, .data, .sentinel, .sentinel, .pinned], laidTests := true, laidLooks := .later }
def PlayTellsCardSaid : Prop := Claim7.holds Tryz.pinned (.plain (OpenSpec.ofChange playTellsSpec)) playTellsCard

/-- THE TIED CARD OF 'henlaw32.PlayBack'. -/
def playBackCard : Claim7 := { stood := { row := playBackRow, standIns := [], harness := (true, "2b03116da1763a1f31f6e75c7e1439c4602db5d9f67fe77a283175819b0df1b1"), looks := true }, kinds := [], alts := [], laidByText := true, laidKinds := [.data, .data, .data, .data, .sentinel, .sentinel, .pinned], laidTests := true, laidLooks := .later }
def PlayBackCardSaid : Prop := Claim7.holds Tryz.pinned (.plain (OpenSpec.ofChange playBackSpec)) playBackCard

/-- THE TIED CARD OF 'henlaw32.PlayLines'. -/
def playLinesCard : Claim7 := { stood := { row := playLinesRow, standIns := [], harness := (true, "2b03116da1763a1f31f6e75c7e1439c4602db5d9f67fe77a283175819b0df1b1"), looks := true }, kinds := [], alts := [], laidByText := true, laidKinds := [.data, .data, .data, .data, .sentinel, .sentinel, .pinned], laidTests := true, laidLooks := .later }
def PlayLinesCardSaid : Prop := Claim7.holds Tryz.pinned (.plain (OpenSpec.ofChange playLinesSpec)) playLinesCard

/-- THE TIED CARD OF 'henlaw32.PlayWords'. -/
def playWordsCard : Claim7 := { stood := { row := playWordsRow, standIns := [], harness := (true, "2b03116da1763a1f31f6e75c7e1439c4602db5d9f67fe77a283175819b0df1b1"), looks := true }, kinds := [], alts := [], laidByText := true, laidKinds := [.data, .data, .data, .data, .sentinel, .sentinel, .pinned], laidTests := true, laidLooks := .later }
def PlayWordsCardSaid : Prop := Claim7.holds Tryz.pinned (.plain (OpenSpec.ofChange playWordsSpec)) playWordsCard

/-- THE SECOND FORM's CARD OF 'henlaw32.PlayTells'. -/
def playTellsUptoCard : Claim7 := { stood := { row := playTellsUptoRow, standIns := [], harness := (true, "2b03116da1763a1f31f6e75c7e1439c4602db5d9f67fe77a283175819b0df1b1"), looks := true }, kinds := [], alts := [], laidByText := true, laidKinds := [.data, .data, .data, .data, .sentinel, .sentinel, .pinned], laidTests := true, laidLooks := .later }
def PlayTellsUptoCardSaid : Prop := Claim7.holds Tryz.pinned (.plain (OpenSpec.upto playTellsSpec)) playTellsUptoCard

/-- THE SECOND FORM's CARD OF 'henlaw32.PlayBack'. -/
def playBackUptoCard : Claim7 := { stood := { row := playBackUptoRow, standIns := [], harness := (true, "2b03116da1763a1f31f6e75c7e1439c4602db5d9f67fe77a283175819b0df1b1"), looks := true }, kinds := [], alts := [], laidByText := true, laidKinds := [.data, .data, .data, .data, .sentinel, .sentinel, .pinned], laidTests := true, laidLooks := .later }
def PlayBackUptoCardSaid : Prop := Claim7.holds Tryz.pinned (.plain (OpenSpec.upto playBackSpec)) playBackUptoCard

/-- THE SECOND FORM's CARD OF 'henlaw32.PlayLines'. -/
def playLinesUptoCard : Claim7 := { stood := { row := playLinesUptoRow, standIns := [], harness := (true, "2b03116da1763a1f31f6e75c7e1439c4602db5d9f67fe77a283175819b0df1b1"), looks := true }, kinds := [], alts := [], laidByText := true, laidKinds := [.data, .data, .data, .data, .sentinel, .sentinel, .pinned], laidTests := true, laidLooks := .later }
def PlayLinesUptoCardSaid : Prop := Claim7.holds Tryz.pinned (.plain (OpenSpec.upto playLinesSpec)) playLinesUptoCard

/-- THE SECOND FORM's CARD OF 'henlaw32.PlayWords'. -/
def playWordsUptoCard : Claim7 := { stood := { row := playWordsUptoRow, standIns := [], harness := (true, "2b03116da1763a1f31f6e75c7e1439c4602db5d9f67fe77a283175819b0df1b1"), looks := true }, kinds := [], alts := [], laidByText := true, laidKinds := [.data, .data, .data, .data, .sentinel, .sentinel, .pinned], laidTests := true, laidLooks := .later }
def PlayWordsUptoCardSaid : Prop := Claim7.holds Tryz.pinned (.plain (OpenSpec.upto playWordsSpec)) playWordsUptoCard
end Rows
end Go.Proofs.YtiddhcabpmkolaaGreatDoor
