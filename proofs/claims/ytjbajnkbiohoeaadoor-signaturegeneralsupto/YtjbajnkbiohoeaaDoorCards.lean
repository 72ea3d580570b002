/-
  DERIVED. GIVEN WITH THE SEED: THE CARDS: each row of YtjbajnkbiohoeaaDoorRows.lean that lists a variable, with what it lists TIED to the program's text (the seventh form; the later family's looks); each row that meets fmt, with fmt's text TOLD by the authors' own Lean function (tested against real Go, not proved from fmt's source: count such statements apart). THE CARD IS WHAT COUNTS. Prove the row's statement (the work); the ties are given (YtjbajnkbiohoeaaDoorTie.lean); close each card by the builder's one call (the guide's Derived/Test/ToyasCard.lean, 'card_holds'). Laid BY PROGRAM, IN A SANDBOX (cutbox-door.mjs). By AI agents, Wed Nov 11 2026. No macro, syntax, notation, axiom, sorry.
-/
import Derived.Test.YtjbajnkbiohoeaaDoorRows
import GoSem.ClaimSeven
namespace Go.Proofs.YtjbajnkbiohoeaaDoor
namespace Rows

/-- THE TIED CARD OF 'provenancelaw2.SignatureGenerals'. -/
def signatureGeneralsCard : Claim7 := { stood := { row := signatureGeneralsRow, standIns := [], harness := (true, "e237f2aa226a39bb28e0c28791298ec1829950080755482849b0cf0c8feb2c1e"), looks := false }, kinds := [], alts := [], laidByText := true, laidKinds := [.data], laidTests := true, laidLooks := .later }
def SignatureGeneralsCardSaid : Prop := Claim7.holds Tryd.pinned (.plain (OpenSpec.ofChange signatureGeneralsSpec)) signatureGeneralsCard

/-- THE SECOND FORM's CARD OF 'provenancelaw2.SignatureGenerals'. -/
def signatureGeneralsUptoCard : Claim7 := { stood := { row := signatureGeneralsUptoRow, standIns := [], harness := (true, "e237f2aa226a39bb28e0c28791298ec1829950080755482849b0cf0c8feb2c1e"), looks := false }, kinds := [], alts := [], laidByText := true, laidKinds := [.data], laidTests := true, laidLooks := .later }
def SignatureGeneralsUptoCardSaid : Prop := Claim7.holds Tryd.pinned (.plain (OpenSpec.upto signatureGeneralsSpec)) signatureGeneralsUptoCard
end Rows
end Go.Proofs.YtjbajnkbiohoeaaDoor
