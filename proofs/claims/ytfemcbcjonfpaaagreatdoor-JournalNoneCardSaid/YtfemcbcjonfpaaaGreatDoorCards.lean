/-
  DERIVED. GIVEN WITH THE SEED: THE CARDS: each row of YtfemcbcjonfpaaaGreatDoorRows.lean that lists a variable, with what it lists TIED to the program's text (the seventh form; the later family's looks); each row that meets fmt, with fmt's text TOLD by the authors' own Lean function (tested against real Go, not proved from fmt's source: count such statements apart). THE CARD IS WHAT COUNTS. Prove the row's statement (the work); the ties are given (YtfemcbcjonfpaaaGreatDoorTie.lean); close each card by the builder's one call (the guide's Derived/Test/ToyasCard.lean, 'card_holds'). Laid BY PROGRAM, IN A SANDBOX (cutbox-door.mjs). By AI agents, Wed Nov 11 2026. No macro, syntax, notation, axiom, sorry.
-/
import Derived.Test.YtfemcbcjonfpaaaGreatDoorRows
import GoSem.ClaimSeven
namespace Go.Proofs.YtfemcbcjonfpaaaGreatDoor
namespace Rows

/-- THE TIED CARD OF 'corveelaw16.JournalRecords'. -/
def journalRecordsCard : Claim7 := { stood := { row := journalRecordsRow, standIns := [], harness := (true, "eeb57e768a40768234148a0385093f974d7ffec5890eb1db69a369e49375905e"), looks := false }, kinds := [], alts := [], laidByText := true, laidKinds := [.data, .data, .data, .data, .data, .pinned], laidTests := true, laidLooks := .later }
def JournalRecordsCardSaid : Prop := Claim7.holds Tryz.pinned (.plain (OpenSpec.ofChange journalRecordsSpec)) journalRecordsCard

/-- THE TIED CARD OF 'corveelaw16.JournalFences'. -/
def journalFencesCard : Claim7 := { stood := { row := journalFencesRow, standIns := [], harness := (true, "eeb57e768a40768234148a0385093f974d7ffec5890eb1db69a369e49375905e"), looks := false }, kinds := [], alts := [], laidByText := true, laidKinds := [.data, .data, .data, .data, .data, .pinned], laidTests := true, laidLooks := .later }
def JournalFencesCardSaid : Prop := Claim7.holds Tryz.pinned (.plain (OpenSpec.ofChange journalFencesSpec)) journalFencesCard

/-- THE TIED CARD OF 'corveelaw16.JournalNone'. -/
def journalNoneCard : Claim7 := { stood := { row := journalNoneRow, standIns := [], harness := (true, "eeb57e768a40768234148a0385093f974d7ffec5890eb1db69a369e49375905e"), looks := false }, kinds := [], alts := [], laidByText := true, laidKinds := [.data, .data, .data, .data, .data, .pinned], laidTests := true, laidLooks := .later }
def JournalNoneCardSaid : Prop := Claim7.holds Tryz.pinned (.plain (OpenSpec.ofChange journalNoneSpec)) journalNoneCard

/-- THE SECOND FORM's CARD OF 'corveelaw16.JournalRecords'. -/
def journalRecordsUptoCard : Claim7 := { stood := { row := journalRecordsUptoRow, standIns := [], harness := (true, "eeb57e768a40768234148a0385093f974d7ffec5890eb1db69a369e49375905e"), looks := false }, kinds := [], alts := [], laidByText := true, laidKinds := [.data, .data, .data, .data, .data, .pinned], laidTests := true, laidLooks := .later }
def JournalRecordsUptoCardSaid : Prop := Claim7.holds Tryz.pinned (.plain (OpenSpec.upto journalRecordsSpec)) journalRecordsUptoCard

/-- THE SECOND FORM's CARD OF 'corveelaw16.JournalFences'. -/
def journalFencesUptoCard : Claim7 := { stood := { row := journalFencesUptoRow, standIns := [], harness := (true, "eeb57e768a40768234148a0385093f974d7ffec5890eb1db69a369e49375905e"), looks := false }, kinds := [], alts := [], laidByText := true, laidKinds := [.data, .data, .data, .data, .data, .pinned], laidTests := true, laidLooks := .later }
def JournalFencesUptoCardSaid : Prop := Claim7.holds Tryz.pinned (.plain (OpenSpec.upto journalFencesSpec)) journalFencesUptoCard

/-- THE SECOND FORM's CARD OF 'corveelaw16.JournalNone'. -/
def journalNoneUptoCard : Claim7 := { stood := { row := journalNoneUptoRow, standIns := [], harness := (true, "eeb57e768a40768234148a0385093f974d7ffec5890eb1db69a369e49375905e"), looks := false }, kinds := [], alts := [], laidByText := true, laidKinds := [.data, .data, .data, .data, .data, .pinned], laidTests := true, laidLooks := .later }
def JournalNoneUptoCardSaid : Prop := Claim7.holds Tryz.pinned (.plain (OpenSpec.upto journalNoneSpec)) journalNoneUptoCard
end Rows
end Go.Proofs.YtfemcbcjonfpaaaGreatDoor
