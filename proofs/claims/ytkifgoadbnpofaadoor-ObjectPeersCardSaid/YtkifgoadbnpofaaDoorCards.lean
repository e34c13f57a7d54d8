/-
  DERIVED. GIVEN WITH THE SEED: THE CARDS: each row of YtkifgoadbnpofaaDoorRows.lean that lists a variable, with what it lists TIED to the program's text (the seventh form; the later family's looks); each row that meets fmt, with fmt's text TOLD by the authors' own Lean function (tested against real Go, not proved from fmt's source: count such statements apart). THE CARD IS WHAT COUNTS. Prove the row's statement (the work); the ties are given (YtkifgoadbnpofaaDoorTie.lean); close each card by the builder's one call (the guide's Derived/Test/ToyasCard.lean, 'card_holds'). Laid BY PROGRAM, IN A SANDBOX (cutbox-door.mjs). By AI agents, Wed Nov 11 2026. No macro, syntax, notation, axiom, sorry.
-/
import Derived.Test.YtkifgoadbnpofaaDoorRows
import GoSem.ClaimSeven
namespace Go.Proofs.YtkifgoadbnpofaaDoor
namespace Rows

/-- THE TIED CARD OF 'jacinthlaw18.ObjectChain'. -/
def objectChainCard : Claim7 := { stood := { row := objectChainRow, standIns := [], harness := (true, "36ffa87e7d8c558763bf091b68884a5856c4b4769d4af41cc120644751d792e8"), looks := false }, kinds := [], alts := [], laidByText := true, laidKinds := [.data], laidTests := true, laidLooks := .later }
def ObjectChainCardSaid : Prop := Claim7.holds Tryd.pinned (.plain (OpenSpec.ofChange objectChainSpec)) objectChainCard

/-- THE TIED CARD OF 'jacinthlaw18.ObjectPeers'. -/
def objectPeersCard : Claim7 := { stood := { row := objectPeersRow, standIns := [], harness := (true, "36ffa87e7d8c558763bf091b68884a5856c4b4769d4af41cc120644751d792e8"), looks := false }, kinds := [], alts := [], laidByText := true, laidKinds := [.data], laidTests := true, laidLooks := .later }
def ObjectPeersCardSaid : Prop := Claim7.holds Tryd.pinned (.plain (OpenSpec.ofChange objectPeersSpec)) objectPeersCard

/-- THE TIED CARD OF 'jacinthlaw18.ObjectHeld'. -/
def objectHeldCard : Claim7 := { stood := { row := objectHeldRow, standIns := [], harness := (true, "36ffa87e7d8c558763bf091b68884a5856c4b4769d4af41cc120644751d792e8"), looks := false }, kinds := [], alts := [], laidByText := true, laidKinds := [.data], laidTests := true, laidLooks := .later }
def ObjectHeldCardSaid : Prop := Claim7.holds Tryd.pinned (.plain (OpenSpec.ofChange objectHeldSpec)) objectHeldCard

/-- THE SECOND FORM's CARD OF 'jacinthlaw18.ObjectChain'. -/
def objectChainUptoCard : Claim7 := { stood := { row := objectChainUptoRow, standIns := [], harness := (true, "36ffa87e7d8c558763bf091b68884a5856c4b4769d4af41cc120644751d792e8"), looks := false }, kinds := [], alts := [], laidByText := true, laidKinds := [.data], laidTests := true, laidLooks := .later }
def ObjectChainUptoCardSaid : Prop := Claim7.holds Tryd.pinned (.plain (OpenSpec.upto objectChainSpec)) objectChainUptoCard

/-- THE SECOND FORM's CARD OF 'jacinthlaw18.ObjectPeers'. -/
def objectPeersUptoCard : Claim7 := { stood := { row := objectPeersUptoRow, standIns := [], harness := (true, "36ffa87e7d8c558763bf091b68884a5856c4b4769d4af41cc120644751d792e8"), looks := false }, kinds := [], alts := [], laidByText := true, laidKinds := [.data], laidTests := true, laidLooks := .later }
def ObjectPeersUptoCardSaid : Prop := Claim7.holds Tryd.pinned (.plain (OpenSpec.upto objectPeersSpec)) objectPeersUptoCard

/-- THE SECOND FORM's CARD OF 'jacinthlaw18.ObjectHeld'. -/
def objectHeldUptoCard : Claim7 := { stood := { row := objectHeldUptoRow, standIns := [], harness := (true, "36ffa87e7d8c558763bf091b68884a5856c4b4769d4af41cc120644751d792e8"), looks := false }, kinds := [], alts := [], laidByText := true, laidKinds := [.data], laidTests := true, laidLooks := .later }
def ObjectHeldUptoCardSaid : Prop := Claim7.holds Tryd.pinned (.plain (OpenSpec.upto objectHeldSpec)) objectHeldUptoCard
end Rows
end Go.Proofs.YtkifgoadbnpofaaDoor
