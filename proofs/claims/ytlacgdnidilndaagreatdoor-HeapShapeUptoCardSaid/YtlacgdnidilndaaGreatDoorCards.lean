/-
  DERIVED. GIVEN WITH THE SEED: THE CARDS: each row of YtlacgdnidilndaaGreatDoorRows.lean that lists a variable, with what it lists TIED to the program's text (the seventh form; the later family's looks); each row that meets fmt, with fmt's text TOLD by the authors' own Lean function (tested against real Go, not proved from fmt's source: count such statements apart). THE CARD IS WHAT COUNTS. Prove the row's statement (the work); the ties are given (YtlacgdnidilndaaGreatDoorTie.lean); close each card by the builder's one call (the guide's Derived/Test/ToyasCard.lean, 'card_holds'). Laid BY PROGRAM, IN A SANDBOX (cutbox-door.mjs). By AI agents, Wed Nov 11 2026. No macro, syntax, notation, axiom, sorry.
-/
import Derived.Test.YtlacgdnidilndaaGreatDoorRows
import GoSem.ClaimSeven
namespace Go.Proofs.YtlacgdnidilndaaGreatDoor
namespace Rows

/-- THE TIED CARD OF 'ecmacorelaw4.HeapShape'. -/
def heapShapeCard : Claim7 := { stood := { row := heapShapeRow, standIns := [], harness := (true, "11b8ec1800185ac336dd746473909b4f29e54955a7aaa4f089fe2238bb8a0246"), looks := true }, kinds := [], alts := [], laidByText := true, laidKinds := [.data, .handle, .data, .pinned], laidTests := true, laidLooks := .later }
def HeapShapeCardSaid : Prop := Claim7.holds Tryz.pinned (.plain (OpenSpec.ofChange heapShapeSpec)) heapShapeCard

/-- THE SECOND FORM's CARD OF 'ecmacorelaw4.HeapShape'. -/
def heapShapeUptoCard : Claim7 := { stood := { row := heapShapeUptoRow, standIns := [], harness := (true, "11b8ec1800185ac336dd746473909b4f29e54955a7aaa4f089fe2238bb8a0246"), looks := true }, kinds := [], alts := [], laidByText := true, laidKinds := [.data, .handle, .data, .pinned], laidTests := true, laidLooks := .later }
def HeapShapeUptoCardSaid : Prop := Claim7.holds Tryz.pinned (.plain (OpenSpec.upto heapShapeSpec)) heapShapeUptoCard
end Rows
end Go.Proofs.YtlacgdnidilndaaGreatDoor
