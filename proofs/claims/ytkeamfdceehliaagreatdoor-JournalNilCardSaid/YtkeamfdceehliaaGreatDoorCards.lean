/-
  DERIVED. GIVEN WITH THE SEED: THE CARDS: each row of YtkeamfdceehliaaGreatDoorRows.lean that lists a variable, with what it lists TIED to the program's text (the seventh form; the later family's looks); each row that meets fmt, with fmt's text TOLD by the authors' own Lean function (tested against real Go, not proved from fmt's source: count such statements apart). THE CARD IS WHAT COUNTS. Prove the row's statement (the work); the ties are given (YtkeamfdceehliaaGreatDoorTie.lean); close each card by the builder's one call (the guide's Derived/Test/ToyasCard.lean, 'card_holds'). Laid BY PROGRAM, IN A SANDBOX (cutbox-door.mjs). By AI agents, Wed Nov 11 2026. No macro, syntax, notation, axiom, sorry.
-/
import Derived.Test.YtkeamfdceehliaaGreatDoorRows
import GoSem.ClaimSeven
namespace Go.Proofs.YtkeamfdceehliaaGreatDoor
namespace Rows

/-- THE TIED CARD OF 'horariumlaw08.JournalLinear'. -/
def journalLinearCard : Claim7 := { stood := { row := journalLinearRow, standIns := [], harness := (true, "09f8ab90365ce71906afe06a706be121b17b86e044eed8b299baa27a3a13f83b"), looks := true }, kinds := [], alts := [], laidByText := true, laidKinds := [.data, .pinned], laidTests := true, laidLooks := .later }
def JournalLinearCardSaid : Prop := Claim7.holds Tryz.pinned (.plain (OpenSpec.ofChange journalLinearSpec)) journalLinearCard

/-- THE TIED CARD OF 'horariumlaw08.JournalTells'. -/
def journalTellsCard : Claim7 := { stood := { row := journalTellsRow, standIns := [], harness := (true, "09f8ab90365ce71906afe06a706be121b17b86e044eed8b299baa27a3a13f83b"), looks := true }, kinds := [], alts := [], laidByText := true, laidKinds := [.data, .pinned], laidTests := true, laidLooks := .later }
def JournalTellsCardSaid : Prop := Claim7.holds Tryz.pinned (.plain (OpenSpec.ofChange journalTellsSpec)) journalTellsCard

/-- THE TIED CARD OF 'horariumlaw08.JournalNil'. -/
def journalNilCard : Claim7 := { stood := { row := journalNilRow, standIns := [], harness := (true, "09f8ab90365ce71906afe06a706be121b17b86e044eed8b299baa27a3a13f83b"), looks := true }, kinds := [], alts := [], laidByText := true, laidKinds := [.data, .pinned], laidTests := true, laidLooks := .later }
def JournalNilCardSaid : Prop := Claim7.holds Tryz.pinned (.plain (OpenSpec.ofChange journalNilSpec)) journalNilCard

/-- THE TIED CARD OF 'horariumlaw08.JournalSafe'. -/
def journalSafeCard : Claim7 := { stood := { row := journalSafeRow, standIns := [], harness := (true, "09f8ab90365ce71906afe06a706be121b17b86e044eed8b299baa27a3a13f83b"), looks := true }, kinds := [], alts := [], laidByText := true, laidKinds := [.data, .pinned], laidTests := true, laidLooks := .later }
def JournalSafeCardSaid : Prop := Claim7.holds Tryz.pinned (.plain (OpenSpec.ofChange journalSafeSpec)) journalSafeCard

/-- THE SECOND FORM's CARD OF 'horariumlaw08.JournalLinear'. -/
def journalLinearUptoCard : Claim7 := { stood := { row := journalLinearUptoRow, standIns := [], harness := (true, "09f8ab90365ce71906afe06a706be121b17b86e044eed8b299baa27a3a13f83b"), looks := true }, kinds := [], alts := [], laidByText := true, laidKinds := [.data, .pinned], laidTests := true, laidLooks := .later }
def JournalLinearUptoCardSaid : Prop := Claim7.holds Tryz.pinned (.plain (OpenSpec.upto journalLinearSpec)) journalLinearUptoCard

/-- THE SECOND FORM's CARD OF 'horariumlaw08.JournalTells'. -/
def journalTellsUptoCard : Claim7 := { stood := { row := journalTellsUptoRow, standIns := [], harness := (true, "09f8ab90365ce71906afe06a706be121b17b86e044eed8b299baa27a3a13f83b"), looks := true }, kinds := [], alts := [], laidByText := true, laidKinds := [.data, .pinned], laidTests := true, laidLooks := .later }
def JournalTellsUptoCardSaid : Prop := Claim7.holds Tryz.pinned (.plain (OpenSpec.upto journalTellsSpec)) journalTellsUptoCard

/-- THE SECOND FORM's CARD OF 'horariumlaw08.JournalNil'. -/
def journalNilUptoCard : Claim7 := { stood := { row := journalNilUptoRow, standIns := [], harness := (true, "09f8ab90365ce71906afe06a706be121b17b86e044eed8b299baa27a3a13f83b"), looks := true }, kinds := [], alts := [], laidByText := true, laidKinds := [.data, .pinned], laidTests := true, laidLooks := .later }
def JournalNilUptoCardSaid : Prop := Claim7.holds Tryz.pinned (.plain (OpenSpec.upto journalNilSpec)) journalNilUptoCard

/-- THE SECOND FORM's CARD OF 'horariumlaw08.JournalSafe'. -/
def journalSafeUptoCard : Claim7 := { stood := { row := journalSafeUptoRow, standIns := [], harness := (true, "09f8ab90365ce71906afe06a706be121b17b86e044eed8b299baa27a3a13f83b"), looks := true }, kinds := [], alts := [], laidByText := true, laidKinds := [.data, .pinned], laidTests := true, laidLooks := .later }
def JournalSafeUptoCardSaid : Prop := Claim7.holds Tryz.pinned (.plain (OpenSpec.upto journalSafeSpec)) journalSafeUptoCard
end Rows
end Go.Proofs.YtkeamfdceehliaaGreatDoor
