/-
  DERIVED. GIVEN WITH THE SEED: THE CARDS: each row of YtggnohbfdlebiaaGreatDoorRows.lean that lists a variable, with what it lists TIED to the program's text (the seventh form; the later family's looks); each row that meets fmt, with fmt's text TOLD by the authors' own Lean function (tested against real Go, not proved from fmt's source: count such statements apart). THE CARD IS WHAT COUNTS. Prove the row's statement (the work); the ties are given (YtggnohbfdlebiaaGreatDoorTie.lean); close each card by the builder's one call (the guide's Derived/Test/ToyasCard.lean, 'card_holds'). Laid BY PROGRAM, IN A SANDBOX (cutbox-door.mjs). By AI agents, Wed Nov 11 2026. No macro, syntax, notation, axiom, sorry.
-/
import Derived.Test.YtggnohbfdlebiaaGreatDoorRows
import GoSem.ClaimSeven
namespace Go.Proofs.YtggnohbfdlebiaaGreatDoor
namespace Rows

/-- THE TIED CARD OF 'passbooklaw10.LogFull'. -/
def logFullCard : Claim7 := { stood := { row := logFullRow, standIns := [], harness := (true, "3495ca27f341d35b91c1f09623eac39114586fea930c2ab7cd52a09142fcd9e2"), looks := false }, kinds := [], alts := [], laidByText := true, laidKinds := [.sentinel], laidTests := true, laidLooks := .later }
def LogFullCardSaid : Prop := Claim7.holds Tryz.pinned (.plain (OpenSpec.ofChange logFullSpec)) logFullCard

/-- THE TIED CARD OF 'passbooklaw10.LogTail'. -/
def logTailCard : Claim7 := { stood := { row := logTailRow, standIns := [], harness := (true, "3495ca27f341d35b91c1f09623eac39114586fea930c2ab7cd52a09142fcd9e2"), looks := false }, kinds := [], alts := [], laidByText := true, laidKinds := [.sentinel], laidTests := true, laidLooks := .later }
def LogTailCardSaid : Prop := Claim7.holds Tryz.pinned (.plain (OpenSpec.ofChange logTailSpec)) logTailCard

/-- THE TIED CARD OF 'passbooklaw10.LogTwice'. -/
def logTwiceCard : Claim7 := { stood := { row := logTwiceRow, standIns := [], harness := (true, "3495ca27f341d35b91c1f09623eac39114586fea930c2ab7cd52a09142fcd9e2"), looks := false }, kinds := [], alts := [], laidByText := true, laidKinds := [.sentinel], laidTests := true, laidLooks := .later }
def LogTwiceCardSaid : Prop := Claim7.holds Tryz.pinned (.plain (OpenSpec.ofChange logTwiceSpec)) logTwiceCard

/-- THE TIED CARD OF 'passbooklaw10.LogNil'. -/
def logNilCard : Claim7 := { stood := { row := logNilRow, standIns := [], harness := (true, "3495ca27f341d35b91c1f09623eac39114586fea930c2ab7cd52a09142fcd9e2"), looks := false }, kinds := [], alts := [], laidByText := true, laidKinds := [.sentinel], laidTests := true, laidLooks := .later }
def LogNilCardSaid : Prop := Claim7.holds Tryz.pinned (.plain (OpenSpec.ofChange logNilSpec)) logNilCard

/-- THE TIED CARD OF 'passbooklaw10.LogPruned'. -/
def logPrunedCard : Claim7 := { stood := { row := logPrunedRow, standIns := [], harness := (true, "3495ca27f341d35b91c1f09623eac39114586fea930c2ab7cd52a09142fcd9e2"), looks := false }, kinds := [], alts := [], laidByText := true, laidKinds := [.sentinel], laidTests := true, laidLooks := .later }
def LogPrunedCardSaid : Prop := Claim7.holds Tryz.pinned (.plain (OpenSpec.ofChange logPrunedSpec)) logPrunedCard

/-- THE TIED CARD OF 'passbooklaw10.LogSafe'. -/
def logSafeCard : Claim7 := { stood := { row := logSafeRow, standIns := [], harness := (true, "3495ca27f341d35b91c1f09623eac39114586fea930c2ab7cd52a09142fcd9e2"), looks := false }, kinds := [], alts := [], laidByText := true, laidKinds := [.sentinel], laidTests := true, laidLooks := .later }
def LogSafeCardSaid : Prop := Claim7.holds Tryz.pinned (.plain (OpenSpec.ofChange logSafeSpec)) logSafeCard

/-- THE SECOND FORM's CARD OF 'passbooklaw10.LogFull'. -/
def logFullUptoCard : Claim7 := { stood := { row := logFullUptoRow, standIns := [], harness := (true, "3495ca27f341d35b91c1f09623eac39114586fea930c2ab7cd52a09142fcd9e2"), looks := false }, kinds := [], alts := [], laidByText := true, laidKinds := [.sentinel], laidTests := true, laidLooks := .later }
def LogFullUptoCardSaid : Prop := Claim7.holds Tryz.pinned (.plain (OpenSpec.upto logFullSpec)) logFullUptoCard

/-- THE SECOND FORM's CARD OF 'passbooklaw10.LogTail'. -/
def logTailUptoCard : Claim7 := { stood := { row := logTailUptoRow, standIns := [], harness := (true, "3495ca27f341d35b91c1f09623eac39114586fea930c2ab7cd52a09142fcd9e2"), looks := false }, kinds := [], alts := [], laidByText := true, laidKinds := [.sentinel], laidTests := true, laidLooks := .later }
def LogTailUptoCardSaid : Prop := Claim7.holds Tryz.pinned (.plain (OpenSpec.upto logTailSpec)) logTailUptoCard

/-- THE SECOND FORM's CARD OF 'passbooklaw10.LogTwice'. -/
def logTwiceUptoCard : Claim7 := { stood := { row := logTwiceUptoRow, standIns := [], harness := (true, "3495ca27f341d35b91c1f09623eac39114586fea930c2ab7cd52a09142fcd9e2"), looks := false }, kinds := [], alts := [], laidByText := true, laidKinds := [.sentinel], laidTests := true, laidLooks := .later }
def LogTwiceUptoCardSaid : Prop := Claim7.holds Tryz.pinned (.plain (OpenSpec.upto logTwiceSpec)) logTwiceUptoCard

/-- THE SECOND FORM's CARD OF 'passbooklaw10.LogNil'. -/
def logNilUptoCard : Claim7 := { stood := { row := logNilUptoRow, standIns := [], harness := (true, "3495ca27f341d35b91c1f09623eac39114586fea930c2ab7cd52a09142fcd9e2"), looks := false }, kinds := [], alts := [], laidByText := true, laidKinds := [.sentinel], laidTests := true, laidLooks := .later }
def LogNilUptoCardSaid : Prop := Claim7.holds Tryz.pinned (.plain (OpenSpec.upto logNilSpec)) logNilUptoCard

/-- THE SECOND FORM's CARD OF 'passbooklaw10.LogPruned'. -/
def logPrunedUptoCard : Claim7 := { stood := { row := logPrunedUptoRow, standIns := [], harness := (true, "3495ca27f341d35b91c1f09623eac39114586fea930c2ab7cd52a09142fcd9e2"), looks := false }, kinds := [], alts := [], laidByText := true, laidKinds := [.sentinel], laidTests := true, laidLooks := .later }
def LogPrunedUptoCardSaid : Prop := Claim7.holds Tryz.pinned (.plain (OpenSpec.upto logPrunedSpec)) logPrunedUptoCard

/-- THE SECOND FORM's CARD OF 'passbooklaw10.LogSafe'. -/
def logSafeUptoCard : Claim7 := { stood := { row := logSafeUptoRow, standIns := [], harness := (true, "3495ca27f341d35b91c1f09623eac39114586fea930c2ab7cd52a09142fcd9e2"), looks := false }, kinds := [], alts := [], laidByText := true, laidKinds := [.sentinel], laidTests := true, laidLooks := .later }
def LogSafeUptoCardSaid : Prop := Claim7.holds Tryz.pinned (.plain (OpenSpec.upto logSafeSpec)) logSafeUptoCard
end Rows
end Go.Proofs.YtggnohbfdlebiaaGreatDoor
