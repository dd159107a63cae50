/-
  DERIVED. GIVEN WITH THE SEED: THE CARDS: each row of YtpfkkagkbneilaaGreatDoorRows.lean that lists a variable, with what it lists TIED to the program's text (the seventh form; the later family's looks); each row that meets fmt, with fmt's text TOLD by the authors' own Lean function (tested against real Go, not proved from fmt's source: count such statements apart). THE CARD IS WHAT COUNTS. Prove the row's statement (the work); the ties are given (YtpfkkagkbneilaaGreatDoorTie.lean); close each card by the builder's one call (the guide's Derived/Test/ToyasCard.lean, 'card_holds'). Laid BY PROGRAM, IN A SANDBOX (cutbox-door.mjs). By AI agents, Wed Nov 11 2026. No macro, syntax, notation, axiom, sorry.
-/
import Derived.Test.YtpfkkagkbneilaaGreatDoorRows
import GoSem.ClaimSeven
namespace Go.Proofs.YtpfkkagkbneilaaGreatDoor
namespace Rows

/-- THE TIED CARD OF 'bursarlaw27.BursarAsks'. -/
def bursarAsksCard : Claim7 := { stood := { row := bursarAsksRow, standIns := [], harness := (true, "6e68e0ab6e9bc33ef42f945cab042f78b806e7c04118ae2d06bc14cad5a0499a"), looks := true }, kinds := [], alts := [], laidByText := true, laidKinds := [.data, .data, .data, .data, .sentinel, .sentinel, .widerDeep, .data, .data, .pinned], laidTests := true, laidLooks := .later }
def BursarAsksCardSaid : Prop := Claim7.holds Tryz.pinned (.plain (OpenSpec.ofChange bursarAsksSpec)) bursarAsksCard

/-- THE TIED CARD OF 'bursarlaw27.BursarChecks'. -/
def bursarChecksCard : Claim7 := { stood := { row := bursarChecksRow, standIns := [], harness := (true, "6e68e0ab6e9bc33ef42f945cab042f78b806e7c04118ae2d06bc14cad5a0499a"), looks := true }, kinds := [], alts := [], laidByText := true, laidKinds := [.data, .data, .data, .data, .sentinel, .sentinel, .widerDeep, .data, .data, .pinned], laidTests := true, laidLooks := .later }
def BursarChecksCardSaid : Prop := Claim7.holds Tryz.pinned (.plain (OpenSpec.ofChange bursarChecksSpec)) bursarChecksCard

/-- THE SECOND FORM's CARD OF 'bursarlaw27.BursarAsks'. -/
def bursarAsksUptoCard : Claim7 := { stood := { row := bursarAsksUptoRow, standIns := [], harness := (true, "6e68e0ab6e9bc33ef42f945cab042f78b806e7c04118ae2d06bc14cad5a0499a"), looks := true }, kinds := [], alts := [], laidByText := true, laidKinds := [.data, .data, .data, .data, .sentinel, .sentinel, .widerDeep, .data, .data, .pinned], laidTests := true, laidLooks := .later }
def BursarAsksUptoCardSaid : Prop := Claim7.holds Tryz.pinned (.plain (OpenSpec.upto bursarAsksSpec)) bursarAsksUptoCard

/-- THE SECOND FORM's CARD OF 'bursarlaw27.BursarChecks'. -/
def bursarChecksUptoCard : Claim7 := { stood := { row := bursarChecksUptoRow, standIns := [], harness := (true, "6e68e0ab6e9bc33ef42f945cab042f78b806e7c04118ae2d06bc14cad5a0499a"), looks := true }, kinds := [], alts := [], laidByText := true, laidKinds := [.data, .data, .data, .data, .sentinel, .sentinel, .widerDeep, .data, .data, .pinned], laidTests := true, laidLooks := .later }
def BursarChecksUptoCardSaid : Prop := Claim7.holds Tryz.pinned (.plain (OpenSpec.upto bursarChecksSpec)) bursarChecksUptoCard
end Rows
end Go.Proofs.YtpfkkagkbneilaaGreatDoor
