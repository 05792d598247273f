/-
  DERIVED. GIVEN WITH THE SEED: THE CARDS: each row of YtipdohldogbmnaaDoorRows.lean that lists a variable, with what it lists TIED to the program's text (the seventh form; the later family's looks); each row that meets fmt, with fmt's text TOLD by the authors' own Lean function (tested against real Go, not proved from fmt's source: count such statements apart). THE CARD IS WHAT COUNTS. Prove the row's statement (the work); the ties are given (YtipdohldogbmnaaDoorTie.lean); close each card by the builder's one call (the guide's Derived/Test/ToyasCard.lean, 'card_holds'). Laid BY PROGRAM, IN A SANDBOX (cutbox-door.mjs). By AI agents, Wed Nov 11 2026. No macro, syntax, notation, axiom, sorry.
-/
import Derived.Test.YtipdohldogbmnaaDoorRows
import GoSem.ClaimSeven
namespace Go.Proofs.YtipdohldogbmnaaDoor
namespace Rows

/-- THE TIED CARD OF 'shibbolethlaw07.ParamsAgain'. -/
def paramsAgainCard : Claim7 := { stood := { row := paramsAgainRow, standIns := [], harness := (true, "032c2cf56ae77fd65c01e0d27f8a190bfc3e858ec48b513bdd13735000937a38"), looks := true }, kinds := [], alts := [], laidByText := true, laidKinds := [.data, .data], laidTests := true, laidLooks := .later }
def ParamsAgainCardSaid : Prop := Claim7.holds Tryd.pinned (.plain (OpenSpec.ofChange paramsAgainSpec)) paramsAgainCard

/-- THE TIED CARD OF 'shibbolethlaw07.ParamsBack'. -/
def paramsBackCard : Claim7 := { stood := { row := paramsBackRow, standIns := [], harness := (true, "032c2cf56ae77fd65c01e0d27f8a190bfc3e858ec48b513bdd13735000937a38"), looks := true }, kinds := [], alts := [], laidByText := true, laidKinds := [.data, .data], laidTests := true, laidLooks := .later }
def ParamsBackCardSaid : Prop := Claim7.holds Tryd.pinned (.plain (OpenSpec.ofChange paramsBackSpec)) paramsBackCard

/-- THE SECOND FORM's CARD OF 'shibbolethlaw07.ParamsAgain'. -/
def paramsAgainUptoCard : Claim7 := { stood := { row := paramsAgainUptoRow, standIns := [], harness := (true, "032c2cf56ae77fd65c01e0d27f8a190bfc3e858ec48b513bdd13735000937a38"), looks := true }, kinds := [], alts := [], laidByText := true, laidKinds := [.data, .data], laidTests := true, laidLooks := .later }
def ParamsAgainUptoCardSaid : Prop := Claim7.holds Tryd.pinned (.plain (OpenSpec.upto paramsAgainSpec)) paramsAgainUptoCard

/-- THE SECOND FORM's CARD OF 'shibbolethlaw07.ParamsBack'. -/
def paramsBackUptoCard : Claim7 := { stood := { row := paramsBackUptoRow, standIns := [], harness := (true, "032c2cf56ae77fd65c01e0d27f8a190bfc3e858ec48b513bdd13735000937a38"), looks := true }, kinds := [], alts := [], laidByText := true, laidKinds := [.data, .data], laidTests := true, laidLooks := .later }
def ParamsBackUptoCardSaid : Prop := Claim7.holds Tryd.pinned (.plain (OpenSpec.upto paramsBackSpec)) paramsBackUptoCard
end Rows
end Go.Proofs.YtipdohldogbmnaaDoor
