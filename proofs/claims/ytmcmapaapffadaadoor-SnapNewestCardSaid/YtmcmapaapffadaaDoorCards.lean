/-
  DERIVED. GIVEN WITH THE SEED: THE CARDS: each row of YtmcmapaapffadaaDoorRows.lean that lists a variable, with what it lists TIED to the program's text (the seventh form; the later family's looks); each row that meets fmt, with fmt's text TOLD by the authors' own Lean function (tested against real Go, not proved from fmt's source: count such statements apart). THE CARD IS WHAT COUNTS. Prove the row's statement (the work); the ties are given (YtmcmapaapffadaaDoorTie.lean); close each card by the builder's one call (the guide's Derived/Test/ToyasCard.lean, 'card_holds'). Laid BY PROGRAM, IN A SANDBOX (cutbox-door.mjs). By AI agents, Wed Nov 11 2026. No macro, syntax, notation, axiom, sorry.
-/
import Derived.Test.YtmcmapaapffadaaDoorRows
import GoSem.ClaimSeven
namespace Go.Proofs.YtmcmapaapffadaaDoor
namespace Rows

/-- THE TIED CARD OF 'passbooklaw11.SnapNil'. -/
def snapNilCard : Claim7 := { stood := { row := snapNilRow, standIns := [], harness := (true, "64a88fb3fc6d848a5b5b42879a0fceeb4e69b291cb53ec6073ea64047ad67a1f"), looks := false }, kinds := [], alts := [], laidByText := true, laidKinds := [.sentinel], laidTests := true, laidLooks := .later }
def SnapNilCardSaid : Prop := Claim7.holds Tryd.pinned (.plain (OpenSpec.ofChange snapNilSpec)) snapNilCard

/-- THE TIED CARD OF 'passbooklaw11.SnapNewest'. -/
def snapNewestCard : Claim7 := { stood := { row := snapNewestRow, standIns := [], harness := (true, "64a88fb3fc6d848a5b5b42879a0fceeb4e69b291cb53ec6073ea64047ad67a1f"), looks := false }, kinds := [], alts := [], laidByText := true, laidKinds := [.sentinel], laidTests := true, laidLooks := .later }
def SnapNewestCardSaid : Prop := Claim7.holds Tryd.pinned (.plain (OpenSpec.ofChange snapNewestSpec)) snapNewestCard

/-- THE TIED CARD OF 'passbooklaw11.SnapSafe'. -/
def snapSafeCard : Claim7 := { stood := { row := snapSafeRow, standIns := [], harness := (true, "64a88fb3fc6d848a5b5b42879a0fceeb4e69b291cb53ec6073ea64047ad67a1f"), looks := false }, kinds := [], alts := [], laidByText := true, laidKinds := [.sentinel], laidTests := true, laidLooks := .later }
def SnapSafeCardSaid : Prop := Claim7.holds Tryd.pinned (.plain (OpenSpec.ofChange snapSafeSpec)) snapSafeCard

/-- THE SECOND FORM's CARD OF 'passbooklaw11.SnapNil'. -/
def snapNilUptoCard : Claim7 := { stood := { row := snapNilUptoRow, standIns := [], harness := (true, "64a88fb3fc6d848a5b5b42879a0fceeb4e69b291cb53ec6073ea64047ad67a1f"), looks := false }, kinds := [], alts := [], laidByText := true, laidKinds := [.sentinel], laidTests := true, laidLooks := .later }
def SnapNilUptoCardSaid : Prop := Claim7.holds Tryd.pinned (.plain (OpenSpec.upto snapNilSpec)) snapNilUptoCard

/-- THE SECOND FORM's CARD OF 'passbooklaw11.SnapNewest'. -/
def snapNewestUptoCard : Claim7 := { stood := { row := snapNewestUptoRow, standIns := [], harness := (true, "64a88fb3fc6d848a5b5b42879a0fceeb4e69b291cb53ec6073ea64047ad67a1f"), looks := false }, kinds := [], alts := [], laidByText := true, laidKinds := [.sentinel], laidTests := true, laidLooks := .later }
def SnapNewestUptoCardSaid : Prop := Claim7.holds Tryd.pinned (.plain (OpenSpec.upto snapNewestSpec)) snapNewestUptoCard

/-- THE SECOND FORM's CARD OF 'passbooklaw11.SnapSafe'. -/
def snapSafeUptoCard : Claim7 := { stood := { row := snapSafeUptoRow, standIns := [], harness := (true, "64a88fb3fc6d848a5b5b42879a0fceeb4e69b291cb53ec6073ea64047ad67a1f"), looks := false }, kinds := [], alts := [], laidByText := true, laidKinds := [.sentinel], laidTests := true, laidLooks := .later }
def SnapSafeUptoCardSaid : Prop := Claim7.holds Tryd.pinned (.plain (OpenSpec.upto snapSafeSpec)) snapSafeUptoCard
end Rows
end Go.Proofs.YtmcmapaapffadaaDoor
