/-
  DERIVED. GIVEN WITH THE SEED: THE CARDS: each row of YtlljknmojafkoaaGreatDoorRows.lean that lists a variable, with what it lists TIED to the program's text (the seventh form; the later family's looks); each row that meets fmt, with fmt's text TOLD by the authors' own Lean function (tested against real Go, not proved from fmt's source: count such statements apart). THE CARD IS WHAT COUNTS. Prove the row's statement (the work); the ties are given (YtlljknmojafkoaaGreatDoorTie.lean); close each card by the builder's one call (the guide's Derived/Test/ToyasCard.lean, 'card_holds'). Laid BY PROGRAM, IN A SANDBOX (cutbox-door.mjs). By AI agents, Wed Nov 11 2026. No macro, syntax, notation, axiom, sorry.
-/
import Derived.Test.YtlljknmojafkoaaGreatDoorRows
import GoSem.ClaimSeven
namespace Go.Proofs.YtlljknmojafkoaaGreatDoor
namespace Rows

/-- THE TIED CARD OF 'godownlaw10.DbFull'. -/
def dbFullCard : Claim7 := { stood := { row := dbFullRow, standIns := [], harness := (true, "626d04c810d7d306ad8b245eb4a5f5d73b5a7465854a620956ed2ab1944e5701"), looks := true }, kinds := [], alts := [], laidByText := true, laidKinds := [.data, .data, .data, .pinned], laidTests := true, laidLooks := .later }
def DbFullCardSaid : Prop := Claim7.holds Tryz.pinned (.plain (OpenSpec.ofChange dbFullSpec)) dbFullCard

/-- THE TIED CARD OF 'godownlaw12.AtomRows'. -/
def atomRowsCard : Claim7 := { stood := { row := atomRowsRow, standIns := [], harness := (true, "626d04c810d7d306ad8b245eb4a5f5d73b5a7465854a620956ed2ab1944e5701"), looks := true }, kinds := [], alts := [], laidByText := true, laidKinds := [.data, .data, .data, .pinned], laidTests := true, laidLooks := .later }
def AtomRowsCardSaid : Prop := Claim7.holds Tryz.pinned (.plain (OpenSpec.ofChange atomRowsSpec)) atomRowsCard

/-- THE TIED CARD OF 'godownlaw12.AtomOrder'. -/
def atomOrderCard : Claim7 := { stood := { row := atomOrderRow, standIns := [], harness := (true, "626d04c810d7d306ad8b245eb4a5f5d73b5a7465854a620956ed2ab1944e5701"), looks := true }, kinds := [], alts := [], laidByText := true, laidKinds := [.data, .data, .data, .pinned], laidTests := true, laidLooks := .later }
def AtomOrderCardSaid : Prop := Claim7.holds Tryz.pinned (.plain (OpenSpec.ofChange atomOrderSpec)) atomOrderCard

/-- THE TIED CARD OF 'godownlaw12.AtomFinds'. -/
def atomFindsCard : Claim7 := { stood := { row := atomFindsRow, standIns := [], harness := (true, "626d04c810d7d306ad8b245eb4a5f5d73b5a7465854a620956ed2ab1944e5701"), looks := true }, kinds := [], alts := [], laidByText := true, laidKinds := [.data, .data, .data, .pinned], laidTests := true, laidLooks := .later }
def AtomFindsCardSaid : Prop := Claim7.holds Tryz.pinned (.plain (OpenSpec.ofChange atomFindsSpec)) atomFindsCard

/-- THE TIED CARD OF 'godownlaw12.AtomSwept'. -/
def atomSweptCard : Claim7 := { stood := { row := atomSweptRow, standIns := [], harness := (true, "626d04c810d7d306ad8b245eb4a5f5d73b5a7465854a620956ed2ab1944e5701"), looks := true }, kinds := [], alts := [], laidByText := true, laidKinds := [.data, .data, .data, .pinned], laidTests := true, laidLooks := .later }
def AtomSweptCardSaid : Prop := Claim7.holds Tryz.pinned (.plain (OpenSpec.ofChange atomSweptSpec)) atomSweptCard

/-- THE TIED CARD OF 'godownlaw12.AtomPlays'. -/
def atomPlaysCard : Claim7 := { stood := { row := atomPlaysRow, standIns := [], harness := (true, "626d04c810d7d306ad8b245eb4a5f5d73b5a7465854a620956ed2ab1944e5701"), looks := true }, kinds := [], alts := [], laidByText := true, laidKinds := [.data, .data, .data, .pinned], laidTests := true, laidLooks := .later }
def AtomPlaysCardSaid : Prop := Claim7.holds Tryz.pinned (.plain (OpenSpec.ofChange atomPlaysSpec)) atomPlaysCard

/-- THE TIED CARD OF 'godownlaw12.AtomTwice'. -/
def atomTwiceCard : Claim7 := { stood := { row := atomTwiceRow, standIns := [], harness := (true, "626d04c810d7d306ad8b245eb4a5f5d73b5a7465854a620956ed2ab1944e5701"), looks := true }, kinds := [], alts := [], laidByText := true, laidKinds := [.data, .data, .data, .pinned], laidTests := true, laidLooks := .later }
def AtomTwiceCardSaid : Prop := Claim7.holds Tryz.pinned (.plain (OpenSpec.ofChange atomTwiceSpec)) atomTwiceCard

/-- THE TIED CARD OF 'godownlaw12.AtomOthers'. -/
def atomOthersCard : Claim7 := { stood := { row := atomOthersRow, standIns := [], harness := (true, "626d04c810d7d306ad8b245eb4a5f5d73b5a7465854a620956ed2ab1944e5701"), looks := true }, kinds := [], alts := [], laidByText := true, laidKinds := [.data, .data, .data, .pinned], laidTests := true, laidLooks := .later }
def AtomOthersCardSaid : Prop := Claim7.holds Tryz.pinned (.plain (OpenSpec.ofChange atomOthersSpec)) atomOthersCard

/-- THE TIED CARD OF 'godownlaw12.AtomReads'. -/
def atomReadsCard : Claim7 := { stood := { row := atomReadsRow, standIns := [], harness := (true, "626d04c810d7d306ad8b245eb4a5f5d73b5a7465854a620956ed2ab1944e5701"), looks := true }, kinds := [], alts := [], laidByText := true, laidKinds := [.data, .data, .data, .pinned], laidTests := true, laidLooks := .later }
def AtomReadsCardSaid : Prop := Claim7.holds Tryz.pinned (.plain (OpenSpec.ofChange atomReadsSpec)) atomReadsCard

/-- THE SECOND FORM's CARD OF 'godownlaw10.DbFull'. -/
def dbFullUptoCard : Claim7 := { stood := { row := dbFullUptoRow, standIns := [], harness := (true, "626d04c810d7d306ad8b245eb4a5f5d73b5a7465854a620956ed2ab1944e5701"), looks := true }, kinds := [], alts := [], laidByText := true, laidKinds := [.data, .data, .data, .pinned], laidTests := true, laidLooks := .later }
def DbFullUptoCardSaid : Prop := Claim7.holds Tryz.pinned (.plain (OpenSpec.upto dbFullSpec)) dbFullUptoCard

/-- THE SECOND FORM's CARD OF 'godownlaw12.AtomRows'. -/
def atomRowsUptoCard : Claim7 := { stood := { row := atomRowsUptoRow, standIns := [], harness := (true, "626d04c810d7d306ad8b245eb4a5f5d73b5a7465854a620956ed2ab1944e5701"), looks := true }, kinds := [], alts := [], laidByText := true, laidKinds := [.data, .data, .data, .pinned], laidTests := true, laidLooks := .later }
def AtomRowsUptoCardSaid : Prop := Claim7.holds Tryz.pinned (.plain (OpenSpec.upto atomRowsSpec)) atomRowsUptoCard

/-- THE SECOND FORM's CARD OF 'godownlaw12.AtomOrder'. -/
def atomOrderUptoCard : Claim7 := { stood := { row := atomOrderUptoRow, standIns := [], harness := (true, "626d04c810d7d306ad8b245eb4a5f5d73b5a7465854a620956ed2ab1944e5701"), looks := true }, kinds := [], alts := [], laidByText := true, laidKinds := [.data, .data, .data, .pinned], laidTests := true, laidLooks := .later }
def AtomOrderUptoCardSaid : Prop := Claim7.holds Tryz.pinned (.plain (OpenSpec.upto atomOrderSpec)) atomOrderUptoCard

/-- THE SECOND FORM's CARD OF 'godownlaw12.AtomFinds'. -/
def atomFindsUptoCard : Claim7 := { stood := { row := atomFindsUptoRow, standIns := [], harness := (true, "626d04c810d7d306ad8b245eb4a5f5d73b5a7465854a620956ed2ab1944e5701"), looks := true }, kinds := [], alts := [], laidByText := true, laidKinds := [.data, .data, .data, .pinned], laidTests := true, laidLooks := .later }
def AtomFindsUptoCardSaid : Prop := Claim7.holds Tryz.pinned (.plain (OpenSpec.upto atomFindsSpec)) atomFindsUptoCard

/-- THE SECOND FORM's CARD OF 'godownlaw12.AtomSwept'. -/
def atomSweptUptoCard : Claim7 := { stood := { row := atomSweptUptoRow, standIns := [], harness := (true, "626d04c810d7d306ad8b245eb4a5f5d73b5a7465854a620956ed2ab1944e5701"), looks := true }, kinds := [], alts := [], laidByText := true, laidKinds := [.data, .data, .data, .pinned], laidTests := true, laidLooks := .later }
def AtomSweptUptoCardSaid : Prop := Claim7.holds Tryz.pinned (.plain (OpenSpec.upto atomSweptSpec)) atomSweptUptoCard

/-- THE SECOND FORM's CARD OF 'godownlaw12.AtomPlays'. -/
def atomPlaysUptoCard : Claim7 := { stood := { row := atomPlaysUptoRow, standIns := [], harness := (true, "626d04c810d7d306ad8b245eb4a5f5d73b5a7465854a620956ed2ab1944e5701"), looks := true }, kinds := [], alts := [], laidByText := true, laidKinds := [.data, .data, .data, .pinned], laidTests := true, laidLooks := .later }
def AtomPlaysUptoCardSaid : Prop := Claim7.holds Tryz.pinned (.plain (OpenSpec.upto atomPlaysSpec)) atomPlaysUptoCard

/-- THE SECOND FORM's CARD OF 'godownlaw12.AtomTwice'. -/
def atomTwiceUptoCard : Claim7 := { stood := { row := atomTwiceUptoRow, standIns := [], harness := (true, "626d04c810d7d306ad8b245eb4a5f5d73b5a7465854a620956ed2ab1944e5701"), looks := true }, kinds := [], alts := [], laidByText := true, laidKinds := [.data, .data, .data, .pinned], laidTests := true, laidLooks := .later }
def AtomTwiceUptoCardSaid : Prop := Claim7.holds Tryz.pinned (.plain (OpenSpec.upto atomTwiceSpec)) atomTwiceUptoCard

/-- THE SECOND FORM's CARD OF 'godownlaw12.AtomOthers'. -/
def atomOthersUptoCard : Claim7 := { stood := { row := atomOthersUptoRow, standIns := [], harness := (true, "626d04c810d7d306ad8b245eb4a5f5d73b5a7465854a620956ed2ab1944e5701"), looks := true }, kinds := [], alts := [], laidByText := true, laidKinds := [.data, .data, .data, .pinned], laidTests := true, laidLooks := .later }
def AtomOthersUptoCardSaid : Prop := Claim7.holds Tryz.pinned (.plain (OpenSpec.upto atomOthersSpec)) atomOthersUptoCard

/-- THE SECOND FORM's CARD OF 'godownlaw12.AtomReads'. -/
def atomReadsUptoCard : Claim7 := { stood := { row := atomReadsUptoRow, standIns := [], harness := (true, "626d04c810d7d306ad8b245eb4a5f5d73b5a7465854a620956ed2ab1944e5701"), looks := true }, kinds := [], alts := [], laidByText := true, laidKinds := [.data, .data, .data, .pinned], laidTests := true, laidLooks := .later }
def AtomReadsUptoCardSaid : Prop := Claim7.holds Tryz.pinned (.plain (OpenSpec.upto atomReadsSpec)) atomReadsUptoCard
end Rows
end Go.Proofs.YtlljknmojafkoaaGreatDoor
