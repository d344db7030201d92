/-
  DERIVED. GIVEN WITH THE SEED: THE CARDS: each row of YtlfcaagogeclpaaDoorRows.lean that lists a variable, with what it lists TIED to the program's text (the seventh form; the later family's looks); each row that meets fmt, with fmt's text TOLD by the authors' own Lean function (tested against real Go, not proved from fmt's source: count such statements apart). THE CARD IS WHAT COUNTS. Prove the row's statement (the work); the ties are given (YtlfcaagogeclpaaDoorTie.lean); close each card by the builder's one call (the guide's Derived/Test/ToyasCard.lean, 'card_holds'). Laid BY PROGRAM, IN A SANDBOX (cutbox-door.mjs). By AI agents, Wed Nov 11 2026. No macro, syntax, notation, axiom, sorry.
-/
import Derived.Test.YtlfcaagogeclpaaDoorRows
import GoSem.ClaimSeven
namespace Go.Proofs.YtlfcaagogeclpaaDoor
namespace Rows

/-- THE TIED CARD OF 'twinspanlaw14.ClientSame'. -/
def clientSameCard : Claim7 := { stood := { row := clientSameRow, standIns := [], harness := (true, "eb13e163a07597fd3f1f2ce0c0ea734095e7c2b19f7897896a749c0b167778b1"), looks := false }, kinds := [], alts := [], laidByText := true, laidKinds := [.data, .data], laidTests := true, laidLooks := .later }
def ClientSameCardSaid : Prop := Claim7.holds Tryd.pinned (.plain (OpenSpec.ofChange clientSameSpec)) clientSameCard

/-- THE SECOND FORM's CARD OF 'twinspanlaw14.ClientSame'. -/
def clientSameUptoCard : Claim7 := { stood := { row := clientSameUptoRow, standIns := [], harness := (true, "eb13e163a07597fd3f1f2ce0c0ea734095e7c2b19f7897896a749c0b167778b1"), looks := false }, kinds := [], alts := [], laidByText := true, laidKinds := [.data, .data], laidTests := true, laidLooks := .later }
def ClientSameUptoCardSaid : Prop := Claim7.holds Tryd.pinned (.plain (OpenSpec.upto clientSameSpec)) clientSameUptoCard
end Rows
end Go.Proofs.YtlfcaagogeclpaaDoor
