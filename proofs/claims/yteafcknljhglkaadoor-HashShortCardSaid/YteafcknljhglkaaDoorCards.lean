/-
  DERIVED. GIVEN WITH THE SEED: THE CARDS: each row of YteafcknljhglkaaDoorRows.lean that lists a variable, with what it lists TIED to the program's text (the seventh form; the later family's looks); each row that meets fmt, with fmt's text TOLD by the authors' own Lean function (tested against real Go, not proved from fmt's source: count such statements apart). THE CARD IS WHAT COUNTS. Prove the row's statement (the work); the ties are given (YteafcknljhglkaaDoorTie.lean); close each card by the builder's one call (the guide's Derived/Test/ToyasCard.lean, 'card_holds'). Laid BY PROGRAM, IN A SANDBOX (cutbox-door.mjs). By AI agents, Wed Nov 11 2026. No macro, syntax, notation, axiom, sorry.
-/
import Derived.Test.YteafcknljhglkaaDoorRows
import GoSem.ClaimSeven
namespace Go.Proofs.YteafcknljhglkaaDoor
namespace Rows

/-- THE TIED CARD OF 'godownlaw02.HashLengths'. -/
def hashLengthsCard : Claim7 := { stood := { row := hashLengthsRow, standIns := [], harness := (true, "9b94ae026ca74a5738b863870a32d9c7998cc5099fc8cc9189682607de6728d3"), looks := false }, kinds := [], alts := [], laidByText := true, laidKinds := [.data, .data], laidTests := true, laidLooks := .later }
def HashLengthsCardSaid : Prop := Claim7.holds Tryd.pinned (.plain (OpenSpec.ofChange hashLengthsSpec)) hashLengthsCard

/-- THE TIED CARD OF 'godownlaw02.HashOwn'. -/
def hashOwnCard : Claim7 := { stood := { row := hashOwnRow, standIns := [], harness := (true, "9b94ae026ca74a5738b863870a32d9c7998cc5099fc8cc9189682607de6728d3"), looks := false }, kinds := [], alts := [], laidByText := true, laidKinds := [.data, .data], laidTests := true, laidLooks := .later }
def HashOwnCardSaid : Prop := Claim7.holds Tryd.pinned (.plain (OpenSpec.ofChange hashOwnSpec)) hashOwnCard

/-- THE TIED CARD OF 'godownlaw02.HashSums'. -/
def hashSumsCard : Claim7 := { stood := { row := hashSumsRow, standIns := [], harness := (true, "9b94ae026ca74a5738b863870a32d9c7998cc5099fc8cc9189682607de6728d3"), looks := false }, kinds := [], alts := [], laidByText := true, laidKinds := [.data, .data], laidTests := true, laidLooks := .later }
def HashSumsCardSaid : Prop := Claim7.holds Tryd.pinned (.plain (OpenSpec.ofChange hashSumsSpec)) hashSumsCard

/-- THE TIED CARD OF 'godownlaw02.HashShort'. -/
def hashShortCard : Claim7 := { stood := { row := hashShortRow, standIns := [], harness := (true, "9b94ae026ca74a5738b863870a32d9c7998cc5099fc8cc9189682607de6728d3"), looks := false }, kinds := [], alts := [], laidByText := true, laidKinds := [.data, .data], laidTests := true, laidLooks := .later }
def HashShortCardSaid : Prop := Claim7.holds Tryd.pinned (.plain (OpenSpec.ofChange hashShortSpec)) hashShortCard

/-- THE TIED CARD OF 'godownlaw02.HashBlocks'. -/
def hashBlocksCard : Claim7 := { stood := { row := hashBlocksRow, standIns := [], harness := (true, "9b94ae026ca74a5738b863870a32d9c7998cc5099fc8cc9189682607de6728d3"), looks := false }, kinds := [], alts := [], laidByText := true, laidKinds := [.data, .data], laidTests := true, laidLooks := .later }
def HashBlocksCardSaid : Prop := Claim7.holds Tryd.pinned (.plain (OpenSpec.ofChange hashBlocksSpec)) hashBlocksCard

/-- THE SECOND FORM's CARD OF 'godownlaw02.HashLengths'. -/
def hashLengthsUptoCard : Claim7 := { stood := { row := hashLengthsUptoRow, standIns := [], harness := (true, "9b94ae026ca74a5738b863870a32d9c7998cc5099fc8cc9189682607de6728d3"), looks := false }, kinds := [], alts := [], laidByText := true, laidKinds := [.data, .data], laidTests := true, laidLooks := .later }
def HashLengthsUptoCardSaid : Prop := Claim7.holds Tryd.pinned (.plain (OpenSpec.upto hashLengthsSpec)) hashLengthsUptoCard

/-- THE SECOND FORM's CARD OF 'godownlaw02.HashOwn'. -/
def hashOwnUptoCard : Claim7 := { stood := { row := hashOwnUptoRow, standIns := [], harness := (true, "9b94ae026ca74a5738b863870a32d9c7998cc5099fc8cc9189682607de6728d3"), looks := false }, kinds := [], alts := [], laidByText := true, laidKinds := [.data, .data], laidTests := true, laidLooks := .later }
def HashOwnUptoCardSaid : Prop := Claim7.holds Tryd.pinned (.plain (OpenSpec.upto hashOwnSpec)) hashOwnUptoCard

/-- THE SECOND FORM's CARD OF 'godownlaw02.HashSums'. -/
def hashSumsUptoCard : Claim7 := { stood := { row := hashSumsUptoRow, standIns := [], harness := (true, "9b94ae026ca74a5738b863870a32d9c7998cc5099fc8cc9189682607de6728d3"), looks := false }, kinds := [], alts := [], laidByText := true, laidKinds := [.data, .data], laidTests := true, laidLooks := .later }
def HashSumsUptoCardSaid : Prop := Claim7.holds Tryd.pinned (.plain (OpenSpec.upto hashSumsSpec)) hashSumsUptoCard

/-- THE SECOND FORM's CARD OF 'godownlaw02.HashShort'. -/
def hashShortUptoCard : Claim7 := { stood := { row := hashShortUptoRow, standIns := [], harness := (true, "9b94ae026ca74a5738b863870a32d9c7998cc5099fc8cc9189682607de6728d3"), looks := false }, kinds := [], alts := [], laidByText := true, laidKinds := [.data, .data], laidTests := true, laidLooks := .later }
def HashShortUptoCardSaid : Prop := Claim7.holds Tryd.pinned (.plain (OpenSpec.upto hashShortSpec)) hashShortUptoCard

/-- THE SECOND FORM's CARD OF 'godownlaw02.HashBlocks'. -/
def hashBlocksUptoCard : Claim7 := { stood := { row := hashBlocksUptoRow, standIns := [], harness := (true, "9b94ae026ca74a5738b863870a32d9c7998cc5099fc8cc9189682607de6728d3"), looks := false }, kinds := [], alts := [], laidByText := true, laidKinds := [.data, .data], laidTests := true, laidLooks := .later }
def HashBlocksUptoCardSaid : Prop := Claim7.holds Tryd.pinned (.plain (OpenSpec.upto hashBlocksSpec)) hashBlocksUptoCard
end Rows
end Go.Proofs.YteafcknljhglkaaDoor
