/-
  DERIVED. GIVEN WITH THE SEED: THE CARDS: each row of YthlbfghnjgbfkaaDoorRows.lean that lists a variable, with what it lists TIED to the program's text (the seventh form; the later family's looks); each row that meets fmt, with fmt's text TOLD by the authors' own Lean function (tested against real Go, not proved from fmt's source: count such statements apart). THE CARD IS WHAT COUNTS. Prove the row's statement (the work); the ties are given (YthlbfghnjgbfkaaDoorTie.lean); close each card by the builder's one call (the guide's Derived/Test/ToyasCard.lean, 'card_holds'). Laid BY PROGRAM, IN A SANDBOX (cutbox-door.mjs). By AI agents, Wed Nov 11 2026. No macro, syntax, notation, axiom, sorry.
-/
import Derived.Test.YthlbfghnjgbfkaaDoorRows
import GoSem.ClaimSeven
namespace Go.Proofs.YthlbfghnjgbfkaaDoor
namespace Rows

/-- THE TIED CARD OF 'pantlerlaw03.CivilDates'. -/
def civilDatesCard : Claim7 := { stood := { row := civilDatesRow, standIns := [], harness := (true, "cf4f5192bf64542d05608ddd458808b58a7ad6ea59cc504e445c51190d22b664"), looks := false }, kinds := [], alts := [], laidByText := true, laidKinds := [.data, .data, .data], laidTests := true, laidLooks := .later }
def CivilDatesCardSaid : Prop := Claim7.holds Tryd.pinned (.plain (OpenSpec.ofChange civilDatesSpec)) civilDatesCard

/-- THE TIED CARD OF 'pantlerlaw03.CivilSeconds'. -/
def civilSecondsCard : Claim7 := { stood := { row := civilSecondsRow, standIns := [], harness := (true, "cf4f5192bf64542d05608ddd458808b58a7ad6ea59cc504e445c51190d22b664"), looks := false }, kinds := [], alts := [], laidByText := true, laidKinds := [.data, .data, .data], laidTests := true, laidLooks := .later }
def CivilSecondsCardSaid : Prop := Claim7.holds Tryd.pinned (.plain (OpenSpec.ofChange civilSecondsSpec)) civilSecondsCard

/-- THE TIED CARD OF 'pantlerlaw03.CivilBack'. -/
def civilBackCard : Claim7 := { stood := { row := civilBackRow, standIns := [], harness := (true, "cf4f5192bf64542d05608ddd458808b58a7ad6ea59cc504e445c51190d22b664"), looks := false }, kinds := [], alts := [], laidByText := true, laidKinds := [.data, .data, .data], laidTests := true, laidLooks := .later }
def CivilBackCardSaid : Prop := Claim7.holds Tryd.pinned (.plain (OpenSpec.ofChange civilBackSpec)) civilBackCard

/-- THE TIED CARD OF 'pantlerlaw03.CivilAges'. -/
def civilAgesCard : Claim7 := { stood := { row := civilAgesRow, standIns := [], harness := (true, "cf4f5192bf64542d05608ddd458808b58a7ad6ea59cc504e445c51190d22b664"), looks := false }, kinds := [], alts := [], laidByText := true, laidKinds := [.data, .data, .data], laidTests := true, laidLooks := .later }
def CivilAgesCardSaid : Prop := Claim7.holds Tryd.pinned (.plain (OpenSpec.ofChange civilAgesSpec)) civilAgesCard

/-- THE SECOND FORM's CARD OF 'pantlerlaw03.CivilDates'. -/
def civilDatesUptoCard : Claim7 := { stood := { row := civilDatesUptoRow, standIns := [], harness := (true, "cf4f5192bf64542d05608ddd458808b58a7ad6ea59cc504e445c51190d22b664"), looks := false }, kinds := [], alts := [], laidByText := true, laidKinds := [.data, .data, .data], laidTests := true, laidLooks := .later }
def CivilDatesUptoCardSaid : Prop := Claim7.holds Tryd.pinned (.plain (OpenSpec.upto civilDatesSpec)) civilDatesUptoCard

/-- THE SECOND FORM's CARD OF 'pantlerlaw03.CivilSeconds'. -/
def civilSecondsUptoCard : Claim7 := { stood := { row := civilSecondsUptoRow, standIns := [], harness := (true, "cf4f5192bf64542d05608ddd458808b58a7ad6ea59cc504e445c51190d22b664"), looks := false }, kinds := [], alts := [], laidByText := true, laidKinds := [.data, .data, .data], laidTests := true, laidLooks := .later }
def CivilSecondsUptoCardSaid : Prop := Claim7.holds Tryd.pinned (.plain (OpenSpec.upto civilSecondsSpec)) civilSecondsUptoCard

/-- THE SECOND FORM's CARD OF 'pantlerlaw03.CivilBack'. -/
def civilBackUptoCard : Claim7 := { stood := { row := civilBackUptoRow, standIns := [], harness := (true, "cf4f5192bf64542d05608ddd458808b58a7ad6ea59cc504e445c51190d22b664"), looks := false }, kinds := [], alts := [], laidByText := true, laidKinds := [.data, .data, .data], laidTests := true, laidLooks := .later }
def CivilBackUptoCardSaid : Prop := Claim7.holds Tryd.pinned (.plain (OpenSpec.upto civilBackSpec)) civilBackUptoCard

/-- THE SECOND FORM's CARD OF 'pantlerlaw03.CivilAges'. -/
def civilAgesUptoCard : Claim7 := { stood := { row := civilAgesUptoRow, standIns := [], harness := (true, "cf4f5192bf64542d05608ddd458808b58a7ad6ea59cc504e445c51190d22b664"), looks := false }, kinds := [], alts := [], laidByText := true, laidKinds := [.data, .data, .data], laidTests := true, laidLooks := .later }
def CivilAgesUptoCardSaid : Prop := Claim7.holds Tryd.pinned (.plain (OpenSpec.upto civilAgesSpec)) civilAgesUptoCard
end Rows
end Go.Proofs.YthlbfghnjgbfkaaDoor
