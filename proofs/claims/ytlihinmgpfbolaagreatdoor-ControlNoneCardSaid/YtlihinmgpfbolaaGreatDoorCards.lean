/-
  DERIVED. GIVEN WITH THE SEED: THE CARDS: each row of YtlihinmgpfbolaaGreatDoorRows.lean that lists a variable, with what it lists TIED to the program's text (the seventh form; the later family's looks); each row that meets fmt, with fmt's text TOLD by the authors' own Lean function (tested against real Go, not proved from fmt's source: count such statements apart). THE CARD IS WHAT COUNTS. Prove the row's statement (the work); the ties are given (YtlihinmgpfbolaaGreatDoorTie.lean); close each card by the builder's one call (the guide's Derived/Test/ToyasCard.lean, 'card_holds'). Laid BY PROGRAM, IN A SANDBOX (cutbox-door.mjs). By AI agents, Wed Nov 11 2026. No macro, syntax, notation, axiom, sorry.
-/
import Derived.Test.YtlihinmgpfbolaaGreatDoorRows
import GoSem.ClaimSeven
namespace Go.Proofs.YtlihinmgpfbolaaGreatDoor
namespace Rows

/-- THE TIED CARD OF 'corveelaw21.ControlFull'. -/
def controlFullCard : Claim7 := { stood := { row := controlFullRow, standIns := [], harness := (true, "21db3087c63c55b6fc51e834ba6c2564483edf6e0a36211ad571a59f5f7eda3e"), looks := false }, kinds := [], alts := [], laidByText := true, laidKinds := [.data, .data, .data, .data, .data, .pinned], laidTests := true, laidLooks := .later }
def ControlFullCardSaid : Prop := Claim7.holds Tryz.pinned (.plain (OpenSpec.ofChange controlFullSpec)) controlFullCard

/-- THE TIED CARD OF 'corveelaw21.ControlRefuses'. -/
def controlRefusesCard : Claim7 := { stood := { row := controlRefusesRow, standIns := [], harness := (true, "21db3087c63c55b6fc51e834ba6c2564483edf6e0a36211ad571a59f5f7eda3e"), looks := false }, kinds := [], alts := [], laidByText := true, laidKinds := [.data, .data, .data, .data, .data, .pinned], laidTests := true, laidLooks := .later }
def ControlRefusesCardSaid : Prop := Claim7.holds Tryz.pinned (.plain (OpenSpec.ofChange controlRefusesSpec)) controlRefusesCard

/-- THE TIED CARD OF 'corveelaw21.ControlNone'. -/
def controlNoneCard : Claim7 := { stood := { row := controlNoneRow, standIns := [], harness := (true, "21db3087c63c55b6fc51e834ba6c2564483edf6e0a36211ad571a59f5f7eda3e"), looks := false }, kinds := [], alts := [], laidByText := true, laidKinds := [.data, .data, .data, .data, .data, .pinned], laidTests := true, laidLooks := .later }
def ControlNoneCardSaid : Prop := Claim7.holds Tryz.pinned (.plain (OpenSpec.ofChange controlNoneSpec)) controlNoneCard

/-- THE SECOND FORM's CARD OF 'corveelaw21.ControlFull'. -/
def controlFullUptoCard : Claim7 := { stood := { row := controlFullUptoRow, standIns := [], harness := (true, "21db3087c63c55b6fc51e834ba6c2564483edf6e0a36211ad571a59f5f7eda3e"), looks := false }, kinds := [], alts := [], laidByText := true, laidKinds := [.data, .data, .data, .data, .data, .pinned], laidTests := true, laidLooks := .later }
def ControlFullUptoCardSaid : Prop := Claim7.holds Tryz.pinned (.plain (OpenSpec.upto controlFullSpec)) controlFullUptoCard

/-- THE SECOND FORM's CARD OF 'corveelaw21.ControlRefuses'. -/
def controlRefusesUptoCard : Claim7 := { stood := { row := controlRefusesUptoRow, standIns := [], harness := (true, "21db3087c63c55b6fc51e834ba6c2564483edf6e0a36211ad571a59f5f7eda3e"), looks := false }, kinds := [], alts := [], laidByText := true, laidKinds := [.data, .data, .data, .data, .data, .pinned], laidTests := true, laidLooks := .later }
def ControlRefusesUptoCardSaid : Prop := Claim7.holds Tryz.pinned (.plain (OpenSpec.upto controlRefusesSpec)) controlRefusesUptoCard

/-- THE SECOND FORM's CARD OF 'corveelaw21.ControlNone'. -/
def controlNoneUptoCard : Claim7 := { stood := { row := controlNoneUptoRow, standIns := [], harness := (true, "21db3087c63c55b6fc51e834ba6c2564483edf6e0a36211ad571a59f5f7eda3e"), looks := false }, kinds := [], alts := [], laidByText := true, laidKinds := [.data, .data, .data, .data, .data, .pinned], laidTests := true, laidLooks := .later }
def ControlNoneUptoCardSaid : Prop := Claim7.holds Tryz.pinned (.plain (OpenSpec.upto controlNoneSpec)) controlNoneUptoCard
end Rows
end Go.Proofs.YtlihinmgpfbolaaGreatDoor
