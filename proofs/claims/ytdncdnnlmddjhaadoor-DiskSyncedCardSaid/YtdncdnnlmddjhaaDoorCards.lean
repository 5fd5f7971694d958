/-
  DERIVED. GIVEN WITH THE SEED: THE CARDS: each row of YtdncdnnlmddjhaaDoorRows.lean that lists a variable, with what it lists TIED to the program's text (the seventh form; the later family's looks); each row that meets fmt, with fmt's text TOLD by the authors' own Lean function (tested against real Go, not proved from fmt's source: count such statements apart). THE CARD IS WHAT COUNTS. Prove the row's statement (the work); the ties are given (YtdncdnnlmddjhaaDoorTie.lean); close each card by the builder's one call (the guide's Derived/Test/ToyasCard.lean, 'card_holds'). Laid BY PROGRAM, IN A SANDBOX (cutbox-door.mjs). By AI agents, Wed Nov 11 2026. No macro, syntax, notation, axiom, sorry.
-/
import Derived.Test.YtdncdnnlmddjhaaDoorRows
import GoSem.ClaimSeven
namespace Go.Proofs.YtdncdnnlmddjhaaDoor
namespace Rows

/-- THE TIED CARD OF 'passbooklaw09.DiskFull'. -/
def diskFullCard : Claim7 := { stood := { row := diskFullRow, standIns := [], harness := (true, "fe8e85c611fbfccaffeecdb8909a8672c76dd74139a8d9429443e08c0ab7ad53"), looks := false }, kinds := [], alts := [], laidByText := true, laidKinds := [.sentinel], laidTests := true, laidLooks := .later }
def DiskFullCardSaid : Prop := Claim7.holds Tryd.pinned (.plain (OpenSpec.ofChange diskFullSpec)) diskFullCard

/-- THE TIED CARD OF 'passbooklaw09.DiskSynced'. -/
def diskSyncedCard : Claim7 := { stood := { row := diskSyncedRow, standIns := [], harness := (true, "fe8e85c611fbfccaffeecdb8909a8672c76dd74139a8d9429443e08c0ab7ad53"), looks := false }, kinds := [], alts := [], laidByText := true, laidKinds := [.sentinel], laidTests := true, laidLooks := .later }
def DiskSyncedCardSaid : Prop := Claim7.holds Tryd.pinned (.plain (OpenSpec.ofChange diskSyncedSpec)) diskSyncedCard

/-- THE TIED CARD OF 'passbooklaw09.DiskArmed'. -/
def diskArmedCard : Claim7 := { stood := { row := diskArmedRow, standIns := [], harness := (true, "fe8e85c611fbfccaffeecdb8909a8672c76dd74139a8d9429443e08c0ab7ad53"), looks := false }, kinds := [], alts := [], laidByText := true, laidKinds := [.sentinel], laidTests := true, laidLooks := .later }
def DiskArmedCardSaid : Prop := Claim7.holds Tryd.pinned (.plain (OpenSpec.ofChange diskArmedSpec)) diskArmedCard

/-- THE TIED CARD OF 'passbooklaw09.DiskTruncated'. -/
def diskTruncatedCard : Claim7 := { stood := { row := diskTruncatedRow, standIns := [], harness := (true, "fe8e85c611fbfccaffeecdb8909a8672c76dd74139a8d9429443e08c0ab7ad53"), looks := false }, kinds := [], alts := [], laidByText := true, laidKinds := [.sentinel], laidTests := true, laidLooks := .later }
def DiskTruncatedCardSaid : Prop := Claim7.holds Tryd.pinned (.plain (OpenSpec.ofChange diskTruncatedSpec)) diskTruncatedCard

/-- THE TIED CARD OF 'passbooklaw09.DiskRenames'. -/
def diskRenamesCard : Claim7 := { stood := { row := diskRenamesRow, standIns := [], harness := (true, "fe8e85c611fbfccaffeecdb8909a8672c76dd74139a8d9429443e08c0ab7ad53"), looks := false }, kinds := [], alts := [], laidByText := true, laidKinds := [.sentinel], laidTests := true, laidLooks := .later }
def DiskRenamesCardSaid : Prop := Claim7.holds Tryd.pinned (.plain (OpenSpec.ofChange diskRenamesSpec)) diskRenamesCard

/-- THE TIED CARD OF 'passbooklaw09.DiskApart'. -/
def diskApartCard : Claim7 := { stood := { row := diskApartRow, standIns := [], harness := (true, "fe8e85c611fbfccaffeecdb8909a8672c76dd74139a8d9429443e08c0ab7ad53"), looks := false }, kinds := [], alts := [], laidByText := true, laidKinds := [.sentinel], laidTests := true, laidLooks := .later }
def DiskApartCardSaid : Prop := Claim7.holds Tryd.pinned (.plain (OpenSpec.ofChange diskApartSpec)) diskApartCard

/-- THE SECOND FORM's CARD OF 'passbooklaw09.DiskFull'. -/
def diskFullUptoCard : Claim7 := { stood := { row := diskFullUptoRow, standIns := [], harness := (true, "fe8e85c611fbfccaffeecdb8909a8672c76dd74139a8d9429443e08c0ab7ad53"), looks := false }, kinds := [], alts := [], laidByText := true, laidKinds := [.sentinel], laidTests := true, laidLooks := .later }
def DiskFullUptoCardSaid : Prop := Claim7.holds Tryd.pinned (.plain (OpenSpec.upto diskFullSpec)) diskFullUptoCard

/-- THE SECOND FORM's CARD OF 'passbooklaw09.DiskSynced'. -/
def diskSyncedUptoCard : Claim7 := { stood := { row := diskSyncedUptoRow, standIns := [], harness := (true, "fe8e85c611fbfccaffeecdb8909a8672c76dd74139a8d9429443e08c0ab7ad53"), looks := false }, kinds := [], alts := [], laidByText := true, laidKinds := [.sentinel], laidTests := true, laidLooks := .later }
def DiskSyncedUptoCardSaid : Prop := Claim7.holds Tryd.pinned (.plain (OpenSpec.upto diskSyncedSpec)) diskSyncedUptoCard

/-- THE SECOND FORM's CARD OF 'passbooklaw09.DiskArmed'. -/
def diskArmedUptoCard : Claim7 := { stood := { row := diskArmedUptoRow, standIns := [], harness := (true, "fe8e85c611fbfccaffeecdb8909a8672c76dd74139a8d9429443e08c0ab7ad53"), looks := false }, kinds := [], alts := [], laidByText := true, laidKinds := [.sentinel], laidTests := true, laidLooks := .later }
def DiskArmedUptoCardSaid : Prop := Claim7.holds Tryd.pinned (.plain (OpenSpec.upto diskArmedSpec)) diskArmedUptoCard

/-- THE SECOND FORM's CARD OF 'passbooklaw09.DiskTruncated'. -/
def diskTruncatedUptoCard : Claim7 := { stood := { row := diskTruncatedUptoRow, standIns := [], harness := (true, "fe8e85c611fbfccaffeecdb8909a8672c76dd74139a8d9429443e08c0ab7ad53"), looks := false }, kinds := [], alts := [], laidByText := true, laidKinds := [.sentinel], laidTests := true, laidLooks := .later }
def DiskTruncatedUptoCardSaid : Prop := Claim7.holds Tryd.pinned (.plain (OpenSpec.upto diskTruncatedSpec)) diskTruncatedUptoCard

/-- THE SECOND FORM's CARD OF 'passbooklaw09.DiskRenames'. -/
def diskRenamesUptoCard : Claim7 := { stood := { row := diskRenamesUptoRow, standIns := [], harness := (true, "fe8e85c611fbfccaffeecdb8909a8672c76dd74139a8d9429443e08c0ab7ad53"), looks := false }, kinds := [], alts := [], laidByText := true, laidKinds := [.sentinel], laidTests := true, laidLooks := .later }
def DiskRenamesUptoCardSaid : Prop := Claim7.holds Tryd.pinned (.plain (OpenSpec.upto diskRenamesSpec)) diskRenamesUptoCard

/-- THE SECOND FORM's CARD OF 'passbooklaw09.DiskApart'. -/
def diskApartUptoCard : Claim7 := { stood := { row := diskApartUptoRow, standIns := [], harness := (true, "fe8e85c611fbfccaffeecdb8909a8672c76dd74139a8d9429443e08c0ab7ad53"), looks := false }, kinds := [], alts := [], laidByText := true, laidKinds := [.sentinel], laidTests := true, laidLooks := .later }
def DiskApartUptoCardSaid : Prop := Claim7.holds Tryd.pinned (.plain (OpenSpec.upto diskApartSpec)) diskApartUptoCard
end Rows
end Go.Proofs.YtdncdnnlmddjhaaDoor
