/-
  DERIVED. GIVEN WITH THE SEED: THE CARDS: each row of YtifddfbiehmmoaaGreatDoorRows.lean that lists a variable, with what it lists TIED to the program's text (the seventh form; the later family's looks); each row that meets fmt, with fmt's text TOLD by the authors' own Lean function (tested against real Go, not proved from fmt's source: count such statements apart). THE CARD IS WHAT COUNTS. Prove the row's statement (the work); the ties are given (YtifddfbiehmmoaaGreatDoorTie.lean); close each card by the builder's one call (the guide's Derived/Test/ToyasCard.lean, 'card_holds'). Laid BY PROGRAM, IN A SANDBOX (cutbox-door.mjs). By AI agents, Wed Nov 11 2026. No macro, syntax, notation, axiom, sorry.
-/
import Derived.Test.YtifddfbiehmmoaaGreatDoorRows
import GoSem.ClaimSeven
namespace Go.Proofs.YtifddfbiehmmoaaGreatDoor
namespace Rows

/-- THE TIED CARD OF 'ligaturelaw14.PathTurned'. -/
def pathTurnedCard : Claim7 := { stood := { row := pathTurnedRow, standIns := [], harness := (true, "7018dfe29ab2700962b7bb890e9008ed99b31ce5f7acd8a88ce8327fe2e958a3"), looks := false }, kinds := [], alts := [], laidByText := true, laidKinds := [.data, .pinned], laidTests := true, laidLooks := .later }
def PathTurnedCardSaid : Prop := Claim7.holds Tryz.pinned (.plain (OpenSpec.ofChange pathTurnedSpec)) pathTurnedCard

/-- THE TIED CARD OF 'ligaturelaw14.PathTies'. -/
def pathTiesCard : Claim7 := { stood := { row := pathTiesRow, standIns := [], harness := (true, "7018dfe29ab2700962b7bb890e9008ed99b31ce5f7acd8a88ce8327fe2e958a3"), looks := false }, kinds := [], alts := [], laidByText := true, laidKinds := [.data, .pinned], laidTests := true, laidLooks := .later }
def PathTiesCardSaid : Prop := Claim7.holds Tryz.pinned (.plain (OpenSpec.ofChange pathTiesSpec)) pathTiesCard

/-- THE TIED CARD OF 'ligaturelaw14.PathNone'. -/
def pathNoneCard : Claim7 := { stood := { row := pathNoneRow, standIns := [], harness := (true, "7018dfe29ab2700962b7bb890e9008ed99b31ce5f7acd8a88ce8327fe2e958a3"), looks := false }, kinds := [], alts := [], laidByText := true, laidKinds := [.data, .pinned], laidTests := true, laidLooks := .later }
def PathNoneCardSaid : Prop := Claim7.holds Tryz.pinned (.plain (OpenSpec.ofChange pathNoneSpec)) pathNoneCard

/-- THE TIED CARD OF 'ligaturelaw14.PathGrid'. -/
def pathGridCard : Claim7 := { stood := { row := pathGridRow, standIns := [], harness := (true, "7018dfe29ab2700962b7bb890e9008ed99b31ce5f7acd8a88ce8327fe2e958a3"), looks := false }, kinds := [], alts := [], laidByText := true, laidKinds := [.data, .pinned], laidTests := true, laidLooks := .later }
def PathGridCardSaid : Prop := Claim7.holds Tryz.pinned (.plain (OpenSpec.ofChange pathGridSpec)) pathGridCard

/-- THE TIED CARD OF 'ligaturelaw14.PathEdges'. -/
def pathEdgesCard : Claim7 := { stood := { row := pathEdgesRow, standIns := [], harness := (true, "7018dfe29ab2700962b7bb890e9008ed99b31ce5f7acd8a88ce8327fe2e958a3"), looks := false }, kinds := [], alts := [], laidByText := true, laidKinds := [.data, .pinned], laidTests := true, laidLooks := .later }
def PathEdgesCardSaid : Prop := Claim7.holds Tryz.pinned (.plain (OpenSpec.ofChange pathEdgesSpec)) pathEdgesCard

/-- THE TIED CARD OF 'ligaturelaw11.StoreStays'. -/
def storeStaysCard : Claim7 := { stood := { row := storeStaysRow, standIns := [], harness := (true, "7018dfe29ab2700962b7bb890e9008ed99b31ce5f7acd8a88ce8327fe2e958a3"), looks := false }, kinds := [], alts := [], laidByText := true, laidKinds := [.data, .pinned], laidTests := true, laidLooks := .later }
def StoreStaysCardSaid : Prop := Claim7.holds Tryz.pinned (.plain (OpenSpec.ofChange storeStaysSpec)) storeStaysCard

/-- THE SECOND FORM's CARD OF 'ligaturelaw14.PathTurned'. -/
def pathTurnedUptoCard : Claim7 := { stood := { row := pathTurnedUptoRow, standIns := [], harness := (true, "7018dfe29ab2700962b7bb890e9008ed99b31ce5f7acd8a88ce8327fe2e958a3"), looks := false }, kinds := [], alts := [], laidByText := true, laidKinds := [.data, .pinned], laidTests := true, laidLooks := .later }
def PathTurnedUptoCardSaid : Prop := Claim7.holds Tryz.pinned (.plain (OpenSpec.upto pathTurnedSpec)) pathTurnedUptoCard

/-- THE SECOND FORM's CARD OF 'ligaturelaw14.PathTies'. -/
def pathTiesUptoCard : Claim7 := { stood := { row := pathTiesUptoRow, standIns := [], harness := (true, "7018dfe29ab2700962b7bb890e9008ed99b31ce5f7acd8a88ce8327fe2e958a3"), looks := false }, kinds := [], alts := [], laidByText := true, laidKinds := [.data, .pinned], laidTests := true, laidLooks := .later }
def PathTiesUptoCardSaid : Prop := Claim7.holds Tryz.pinned (.plain (OpenSpec.upto pathTiesSpec)) pathTiesUptoCard

/-- THE SECOND FORM's CARD OF 'ligaturelaw14.PathNone'. -/
def pathNoneUptoCard : Claim7 := { stood := { row := pathNoneUptoRow, standIns := [], harness := (true, "7018dfe29ab2700962b7bb890e9008ed99b31ce5f7acd8a88ce8327fe2e958a3"), looks := false }, kinds := [], alts := [], laidByText := true, laidKinds := [.data, .pinned], laidTests := true, laidLooks := .later }
def PathNoneUptoCardSaid : Prop := Claim7.holds Tryz.pinned (.plain (OpenSpec.upto pathNoneSpec)) pathNoneUptoCard

/-- THE SECOND FORM's CARD OF 'ligaturelaw14.PathGrid'. -/
def pathGridUptoCard : Claim7 := { stood := { row := pathGridUptoRow, standIns := [], harness := (true, "7018dfe29ab2700962b7bb890e9008ed99b31ce5f7acd8a88ce8327fe2e958a3"), looks := false }, kinds := [], alts := [], laidByText := true, laidKinds := [.data, .pinned], laidTests := true, laidLooks := .later }
def PathGridUptoCardSaid : Prop := Claim7.holds Tryz.pinned (.plain (OpenSpec.upto pathGridSpec)) pathGridUptoCard

/-- THE SECOND FORM's CARD OF 'ligaturelaw14.PathEdges'. -/
def pathEdgesUptoCard : Claim7 := { stood := { row := pathEdgesUptoRow, standIns := [], harness := (true, "7018dfe29ab2700962b7bb890e9008ed99b31ce5f7acd8a88ce8327fe2e958a3"), looks := false }, kinds := [], alts := [], laidByText := true, laidKinds := [.data, .pinned], laidTests := true, laidLooks := .later }
def PathEdgesUptoCardSaid : Prop := Claim7.holds Tryz.pinned (.plain (OpenSpec.upto pathEdgesSpec)) pathEdgesUptoCard

/-- THE SECOND FORM's CARD OF 'ligaturelaw11.StoreStays'. -/
def storeStaysUptoCard : Claim7 := { stood := { row := storeStaysUptoRow, standIns := [], harness := (true, "7018dfe29ab2700962b7bb890e9008ed99b31ce5f7acd8a88ce8327fe2e958a3"), looks := false }, kinds := [], alts := [], laidByText := true, laidKinds := [.data, .pinned], laidTests := true, laidLooks := .later }
def StoreStaysUptoCardSaid : Prop := Claim7.holds Tryz.pinned (.plain (OpenSpec.upto storeStaysSpec)) storeStaysUptoCard
end Rows
end Go.Proofs.YtifddfbiehmmoaaGreatDoor
