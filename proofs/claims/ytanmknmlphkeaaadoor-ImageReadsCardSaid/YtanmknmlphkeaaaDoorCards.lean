/-
  DERIVED. GIVEN WITH THE SEED: THE CARDS: each row of YtanmknmlphkeaaaDoorRows.lean that lists a variable, with what it lists TIED to the program's text (the seventh form; the later family's looks); each row that meets fmt, with fmt's text TOLD by the authors' own Lean function (tested against real Go, not proved from fmt's source: count such statements apart). THE CARD IS WHAT COUNTS. Prove the row's statement (the work); the ties are given (YtanmknmlphkeaaaDoorTie.lean); close each card by the builder's one call (the guide's Derived/Test/ToyasCard.lean, 'card_holds'). Laid BY PROGRAM, IN A SANDBOX (cutbox-door.mjs). By AI agents, Wed Nov 11 2026. No macro, syntax, notation, axiom, sorry.
-/
import Derived.Test.YtanmknmlphkeaaaDoorRows
import GoSem.ClaimSeven
namespace Go.Proofs.YtanmknmlphkeaaaDoor
namespace Rows

/-- THE TIED CARD OF 'hibernaclelaw32.ImageReads'. -/
def imageReadsCard : Claim7 := { stood := { row := imageReadsRow, standIns := [], harness := (true, "b21e529436bb6ca2326b65c93d1ab1f690f2e3e025809e57a4956188032637aa"), looks := false }, kinds := [], alts := [], laidByText := true, laidKinds := [.data, .data, .data], laidTests := true, laidLooks := .later }
def ImageReadsCardSaid : Prop := Claim7.holds Tryd.pinned (.plain (OpenSpec.ofChange imageReadsSpec)) imageReadsCard

/-- THE TIED CARD OF 'hibernaclelaw34.FreezeOnce'. -/
def freezeOnceCard : Claim7 := { stood := { row := freezeOnceRow, standIns := [], harness := (true, "b21e529436bb6ca2326b65c93d1ab1f690f2e3e025809e57a4956188032637aa"), looks := false }, kinds := [], alts := [], laidByText := true, laidKinds := [.data, .data, .data], laidTests := true, laidLooks := .later }
def FreezeOnceCardSaid : Prop := Claim7.holds Tryd.pinned (.plain (OpenSpec.ofChange freezeOnceSpec)) freezeOnceCard

/-- THE TIED CARD OF 'hibernaclelaw34.FreezePumps'. -/
def freezePumpsCard : Claim7 := { stood := { row := freezePumpsRow, standIns := [], harness := (true, "b21e529436bb6ca2326b65c93d1ab1f690f2e3e025809e57a4956188032637aa"), looks := false }, kinds := [], alts := [], laidByText := true, laidKinds := [.data, .data, .data], laidTests := true, laidLooks := .later }
def FreezePumpsCardSaid : Prop := Claim7.holds Tryd.pinned (.plain (OpenSpec.ofChange freezePumpsSpec)) freezePumpsCard

/-- THE SECOND FORM's CARD OF 'hibernaclelaw32.ImageReads'. -/
def imageReadsUptoCard : Claim7 := { stood := { row := imageReadsUptoRow, standIns := [], harness := (true, "b21e529436bb6ca2326b65c93d1ab1f690f2e3e025809e57a4956188032637aa"), looks := false }, kinds := [], alts := [], laidByText := true, laidKinds := [.data, .data, .data], laidTests := true, laidLooks := .later }
def ImageReadsUptoCardSaid : Prop := Claim7.holds Tryd.pinned (.plain (OpenSpec.upto imageReadsSpec)) imageReadsUptoCard

/-- THE SECOND FORM's CARD OF 'hibernaclelaw34.FreezeOnce'. -/
def freezeOnceUptoCard : Claim7 := { stood := { row := freezeOnceUptoRow, standIns := [], harness := (true, "b21e529436bb6ca2326b65c93d1ab1f690f2e3e025809e57a4956188032637aa"), looks := false }, kinds := [], alts := [], laidByText := true, laidKinds := [.data, .data, .data], laidTests := true, laidLooks := .later }
def FreezeOnceUptoCardSaid : Prop := Claim7.holds Tryd.pinned (.plain (OpenSpec.upto freezeOnceSpec)) freezeOnceUptoCard

/-- THE SECOND FORM's CARD OF 'hibernaclelaw34.FreezePumps'. -/
def freezePumpsUptoCard : Claim7 := { stood := { row := freezePumpsUptoRow, standIns := [], harness := (true, "b21e529436bb6ca2326b65c93d1ab1f690f2e3e025809e57a4956188032637aa"), looks := false }, kinds := [], alts := [], laidByText := true, laidKinds := [.data, .data, .data], laidTests := true, laidLooks := .later }
def FreezePumpsUptoCardSaid : Prop := Claim7.holds Tryd.pinned (.plain (OpenSpec.upto freezePumpsSpec)) freezePumpsUptoCard
end Rows
end Go.Proofs.YtanmknmlphkeaaaDoor
