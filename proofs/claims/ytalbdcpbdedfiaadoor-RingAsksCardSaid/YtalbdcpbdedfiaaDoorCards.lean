/-
  DERIVED. GIVEN WITH THE SEED: THE CARDS: each row of YtalbdcpbdedfiaaDoorRows.lean that lists a variable, with what it lists TIED to the program's text (the seventh form; the later family's looks); each row that meets fmt, with fmt's text TOLD by the authors' own Lean function (tested against real Go, not proved from fmt's source: count such statements apart). THE CARD IS WHAT COUNTS. Prove the row's statement (the work); the ties are given (YtalbdcpbdedfiaaDoorTie.lean); close each card by the builder's one call (the guide's Derived/Test/ToyasCard.lean, 'card_holds'). Laid BY PROGRAM, IN A SANDBOX (cutbox-door.mjs). By AI agents, Wed Nov 11 2026. No macro, syntax, notation, axiom, sorry.
-/
import Derived.Test.YtalbdcpbdedfiaaDoorRows
import GoSem.ClaimSeven
namespace Go.Proofs.YtalbdcpbdedfiaaDoor
namespace Rows

/-- THE TIED CARD OF 'murmurationlaw11.RingAsks'. -/
def ringAsksCard : Claim7 := { stood := { row := ringAsksRow, standIns := [], harness := (true, "aed1a376866fc058c2b023820e84466cebf86526efeac54b1f5b7c72e7313996"), looks := false }, kinds := [], alts := [], laidByText := true, laidKinds := [.data], laidTests := true, laidLooks := .later }
def RingAsksCardSaid : Prop := Claim7.holds Tryd.pinned (.plain (OpenSpec.ofChange ringAsksSpec)) ringAsksCard

/-- THE SECOND FORM's CARD OF 'murmurationlaw11.RingAsks'. -/
def ringAsksUptoCard : Claim7 := { stood := { row := ringAsksUptoRow, standIns := [], harness := (true, "aed1a376866fc058c2b023820e84466cebf86526efeac54b1f5b7c72e7313996"), looks := false }, kinds := [], alts := [], laidByText := true, laidKinds := [.data], laidTests := true, laidLooks := .later }
def RingAsksUptoCardSaid : Prop := Claim7.holds Tryd.pinned (.plain (OpenSpec.upto ringAsksSpec)) ringAsksUptoCard
end Rows
end Go.Proofs.YtalbdcpbdedfiaaDoor
