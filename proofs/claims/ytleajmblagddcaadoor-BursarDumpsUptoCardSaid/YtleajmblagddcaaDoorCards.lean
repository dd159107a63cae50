/-
  DERIVED. GIVEN WITH THE SEED: THE CARDS: each row of YtleajmblagddcaaDoorRows.lean that lists a variable, with what it lists TIED to the program's text (the seventh form; the later family's looks); each row that meets fmt, with fmt's text TOLD by the authors' own Lean function (tested against real Go, not proved from fmt's source: count such statements apart). THE CARD IS WHAT COUNTS. Prove the row's statement (the work); the ties are given (YtleajmblagddcaaDoorTie.lean); close each card by the builder's one call (the guide's Derived/Test/ToyasCard.lean, 'card_holds'). Laid BY PROGRAM, IN A SANDBOX (cutbox-door.mjs). By AI agents, Wed Nov 11 2026. No macro, syntax, notation, axiom, sorry.
-/
import Derived.Test.YtleajmblagddcaaDoorRows
import GoSem.ClaimSeven
namespace Go.Proofs.YtleajmblagddcaaDoor
namespace Rows

/-- THE TIED CARD OF 'bursarlaw27.BursarTells'. -/
def bursarTellsCard : Claim7 := { stood := { row := bursarTellsRow, standIns := [], harness := (true, "2cd6c9d4278dbb7ed65e20c974af6811211e7c2c2c8cd49a7f562888700d52b9"), looks := true }, kinds := [], alts := [], laidByText := true, laidKinds := [.data, .data, .data, .widerDeep], laidTests := true, laidLooks := .later }
def BursarTellsCardSaid : Prop := Claim7.holds Tryd.pinned (.plain (OpenSpec.ofChange bursarTellsSpec)) bursarTellsCard

/-- THE TIED CARD OF 'bursarlaw27.BursarDumps'. -/
def bursarDumpsCard : Claim7 := { stood := { row := bursarDumpsRow, standIns := [], harness := (true, "2cd6c9d4278dbb7ed65e20c974af6811211e7c2c2c8cd49a7f562888700d52b9"), looks := true }, kinds := [], alts := [], laidByText := true, laidKinds := [.data, .data, .data, .widerDeep, .data, .data], laidTests := true, laidLooks := .later }
def BursarDumpsCardSaid : Prop := Claim7.holds Tryd.pinned (.plain (OpenSpec.ofChange bursarDumpsSpec)) bursarDumpsCard

/-- THE SECOND FORM's CARD OF 'bursarlaw27.BursarTells'. -/
def bursarTellsUptoCard : Claim7 := { stood := { row := bursarTellsUptoRow, standIns := [], harness := (true, "2cd6c9d4278dbb7ed65e20c974af6811211e7c2c2c8cd49a7f562888700d52b9"), looks := true }, kinds := [], alts := [], laidByText := true, laidKinds := [.data, .data, .data, .widerDeep], laidTests := true, laidLooks := .later }
def BursarTellsUptoCardSaid : Prop := Claim7.holds Tryd.pinned (.plain (OpenSpec.upto bursarTellsSpec)) bursarTellsUptoCard

/-- THE SECOND FORM's CARD OF 'bursarlaw27.BursarDumps'. -/
def bursarDumpsUptoCard : Claim7 := { stood := { row := bursarDumpsUptoRow, standIns := [], harness := (true, "2cd6c9d4278dbb7ed65e20c974af6811211e7c2c2c8cd49a7f562888700d52b9"), looks := true }, kinds := [], alts := [], laidByText := true, laidKinds := [.data, .data, .data, .widerDeep, .data, .data], laidTests := true, laidLooks := .later }
def BursarDumpsUptoCardSaid : Prop := Claim7.holds Tryd.pinned (.plain (OpenSpec.upto bursarDumpsSpec)) bursarDumpsUptoCard
end Rows
end Go.Proofs.YtleajmblagddcaaDoor
