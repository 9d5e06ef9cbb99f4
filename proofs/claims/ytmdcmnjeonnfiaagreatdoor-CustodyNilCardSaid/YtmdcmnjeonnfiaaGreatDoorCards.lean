/-
  DERIVED. GIVEN WITH THE SEED: THE CARDS: each row of YtmdcmnjeonnfiaaGreatDoorRows.lean that lists a variable, with what it lists TIED to the program's text (the seventh form; the later family's looks); each row that meets fmt, with fmt's text TOLD by the authors' own Lean function (tested against real Go, not proved from fmt's source: count such statements apart). THE CARD IS WHAT COUNTS. Prove the row's statement (the work); the ties are given (YtmdcmnjeonnfiaaGreatDoorTie.lean); close each card by the builder's one call (the guide's Derived/Test/ToyasCard.lean, 'card_holds'). Laid BY PROGRAM, IN A SANDBOX (cutbox-door.mjs). By AI agents, Wed Nov 11 2026. No macro, syntax, notation, axiom, sorry.
-/
import Derived.Test.YtmdcmnjeonnfiaaGreatDoorRows
import GoSem.ClaimSeven
namespace Go.Proofs.YtmdcmnjeonnfiaaGreatDoor
namespace Rows

/-- THE TIED CARD OF 'restantelaw07.CustodyOnce'. -/
def custodyOnceCard : Claim7 := { stood := { row := custodyOnceRow, standIns := [], harness := (true, "b70b45eee77b7db233c8790b46973fe2ebc5c3550a3bbdd59b1df8a0c1ac3392"), looks := true }, kinds := [], alts := [], laidByText := true, laidKinds := [.data, .data, .data, .sentinel, .sentinel], laidTests := true, laidLooks := .later }
def CustodyOnceCardSaid : Prop := Claim7.holds Tryz.pinned (.plain (OpenSpec.ofChange custodyOnceSpec)) custodyOnceCard

/-- THE TIED CARD OF 'restantelaw07.CustodyProgress'. -/
def custodyProgressCard : Claim7 := { stood := { row := custodyProgressRow, standIns := [], harness := (true, "b70b45eee77b7db233c8790b46973fe2ebc5c3550a3bbdd59b1df8a0c1ac3392"), looks := true }, kinds := [], alts := [], laidByText := true, laidKinds := [.data, .data, .data, .sentinel, .sentinel], laidTests := true, laidLooks := .later }
def CustodyProgressCardSaid : Prop := Claim7.holds Tryz.pinned (.plain (OpenSpec.ofChange custodyProgressSpec)) custodyProgressCard

/-- THE TIED CARD OF 'restantelaw07.CustodyNil'. -/
def custodyNilCard : Claim7 := { stood := { row := custodyNilRow, standIns := [], harness := (true, "b70b45eee77b7db233c8790b46973fe2ebc5c3550a3bbdd59b1df8a0c1ac3392"), looks := true }, kinds := [], alts := [], laidByText := true, laidKinds := [.data, .data, .data, .sentinel, .sentinel], laidTests := true, laidLooks := .later }
def CustodyNilCardSaid : Prop := Claim7.holds Tryz.pinned (.plain (OpenSpec.ofChange custodyNilSpec)) custodyNilCard

/-- THE SECOND FORM's CARD OF 'restantelaw07.CustodyOnce'. -/
def custodyOnceUptoCard : Claim7 := { stood := { row := custodyOnceUptoRow, standIns := [], harness := (true, "b70b45eee77b7db233c8790b46973fe2ebc5c3550a3bbdd59b1df8a0c1ac3392"), looks := true }, kinds := [], alts := [], laidByText := true, laidKinds := [.data, .data, .data, .sentinel, .sentinel], laidTests := true, laidLooks := .later }
def CustodyOnceUptoCardSaid : Prop := Claim7.holds Tryz.pinned (.plain (OpenSpec.upto custodyOnceSpec)) custodyOnceUptoCard

/-- THE SECOND FORM's CARD OF 'restantelaw07.CustodyProgress'. -/
def custodyProgressUptoCard : Claim7 := { stood := { row := custodyProgressUptoRow, standIns := [], harness := (true, "b70b45eee77b7db233c8790b46973fe2ebc5c3550a3bbdd59b1df8a0c1ac3392"), looks := true }, kinds := [], alts := [], laidByText := true, laidKinds := [.data, .data, .data, .sentinel, .sentinel], laidTests := true, laidLooks := .later }
def CustodyProgressUptoCardSaid : Prop := Claim7.holds Tryz.pinned (.plain (OpenSpec.upto custodyProgressSpec)) custodyProgressUptoCard

/-- THE SECOND FORM's CARD OF 'restantelaw07.CustodyNil'. -/
def custodyNilUptoCard : Claim7 := { stood := { row := custodyNilUptoRow, standIns := [], harness := (true, "b70b45eee77b7db233c8790b46973fe2ebc5c3550a3bbdd59b1df8a0c1ac3392"), looks := true }, kinds := [], alts := [], laidByText := true, laidKinds := [.data, .data, .data, .sentinel, .sentinel], laidTests := true, laidLooks := .later }
def CustodyNilUptoCardSaid : Prop := Claim7.holds Tryz.pinned (.plain (OpenSpec.upto custodyNilSpec)) custodyNilUptoCard
end Rows
end Go.Proofs.YtmdcmnjeonnfiaaGreatDoor
