/-
  DERIVED. GIVEN WITH THE SEED: THE CARDS: each row of YtiijiejncefpmaaDoorRows.lean that lists a variable, with what it lists TIED to the program's text (the seventh form; the later family's looks); each row that meets fmt, with fmt's text TOLD by the authors' own Lean function (tested against real Go, not proved from fmt's source: count such statements apart). THE CARD IS WHAT COUNTS. Prove the row's statement (the work); the ties are given (YtiijiejncefpmaaDoorTie.lean); close each card by the builder's one call (the guide's Derived/Test/ToyasCard.lean, 'card_holds'). Laid BY PROGRAM, IN A SANDBOX (cutbox-door.mjs). By AI agents, Wed Nov 11 2026. No macro, syntax, notation, axiom, sorry.
-/
import Derived.Test.YtiijiejncefpmaaDoorRows
import GoSem.ClaimSeven
namespace Go.Proofs.YtiijiejncefpmaaDoor
namespace Rows

/-- THE TIED CARD OF 'godownlaw07.NameRight'. -/
def nameRightCard : Claim7 := { stood := { row := nameRightRow, standIns := [], harness := (true, "af2c4cd421eef38196a194f085c8187d1cb4e564a8b001a50e94556b8c59fbfe"), looks := false }, kinds := [], alts := [], laidByText := true, laidKinds := [.data, .data, .data, .pinned], laidTests := true, laidLooks := .later }
def NameRightCardSaid : Prop := Claim7.holds Tryd.pinned (.plain (OpenSpec.ofChange nameRightSpec)) nameRightCard

/-- THE TIED CARD OF 'godownlaw07.NamePaths'. -/
def namePathsCard : Claim7 := { stood := { row := namePathsRow, standIns := [], harness := (true, "af2c4cd421eef38196a194f085c8187d1cb4e564a8b001a50e94556b8c59fbfe"), looks := false }, kinds := [], alts := [], laidByText := true, laidKinds := [.data, .data, .data, .pinned], laidTests := true, laidLooks := .later }
def NamePathsCardSaid : Prop := Claim7.holds Tryd.pinned (.plain (OpenSpec.ofChange namePathsSpec)) namePathsCard

/-- THE TIED CARD OF 'godownlaw07.NameOwn'. -/
def nameOwnCard : Claim7 := { stood := { row := nameOwnRow, standIns := [], harness := (true, "af2c4cd421eef38196a194f085c8187d1cb4e564a8b001a50e94556b8c59fbfe"), looks := false }, kinds := [], alts := [], laidByText := true, laidKinds := [.data, .data, .data, .pinned], laidTests := true, laidLooks := .later }
def NameOwnCardSaid : Prop := Claim7.holds Tryd.pinned (.plain (OpenSpec.ofChange nameOwnSpec)) nameOwnCard

/-- THE TIED CARD OF 'godownlaw08.ScanFinds'. -/
def scanFindsCard : Claim7 := { stood := { row := scanFindsRow, standIns := [], harness := (true, "af2c4cd421eef38196a194f085c8187d1cb4e564a8b001a50e94556b8c59fbfe"), looks := false }, kinds := [], alts := [], laidByText := true, laidKinds := [.data, .pinned], laidTests := true, laidLooks := .later }
def ScanFindsCardSaid : Prop := Claim7.holds Tryd.pinned (.plain (OpenSpec.ofChange scanFindsSpec)) scanFindsCard

/-- THE TIED CARD OF 'godownlaw08.ScanAnywhere'. -/
def scanAnywhereCard : Claim7 := { stood := { row := scanAnywhereRow, standIns := [], harness := (true, "af2c4cd421eef38196a194f085c8187d1cb4e564a8b001a50e94556b8c59fbfe"), looks := false }, kinds := [], alts := [], laidByText := true, laidKinds := [.data, .pinned], laidTests := true, laidLooks := .later }
def ScanAnywhereCardSaid : Prop := Claim7.holds Tryd.pinned (.plain (OpenSpec.ofChange scanAnywhereSpec)) scanAnywhereCard

/-- THE TIED CARD OF 'godownlaw08.ScanNone'. -/
def scanNoneCard : Claim7 := { stood := { row := scanNoneRow, standIns := [], harness := (true, "af2c4cd421eef38196a194f085c8187d1cb4e564a8b001a50e94556b8c59fbfe"), looks := false }, kinds := [], alts := [], laidByText := true, laidKinds := [.data, .pinned], laidTests := true, laidLooks := .later }
def ScanNoneCardSaid : Prop := Claim7.holds Tryd.pinned (.plain (OpenSpec.ofChange scanNoneSpec)) scanNoneCard

/-- THE TIED CARD OF 'godownlaw08.ScanGrows'. -/
def scanGrowsCard : Claim7 := { stood := { row := scanGrowsRow, standIns := [], harness := (true, "af2c4cd421eef38196a194f085c8187d1cb4e564a8b001a50e94556b8c59fbfe"), looks := false }, kinds := [], alts := [], laidByText := true, laidKinds := [.data, .pinned], laidTests := true, laidLooks := .later }
def ScanGrowsCardSaid : Prop := Claim7.holds Tryd.pinned (.plain (OpenSpec.ofChange scanGrowsSpec)) scanGrowsCard

/-- THE TIED CARD OF 'godownlaw08.ScanTwice'. -/
def scanTwiceCard : Claim7 := { stood := { row := scanTwiceRow, standIns := [], harness := (true, "af2c4cd421eef38196a194f085c8187d1cb4e564a8b001a50e94556b8c59fbfe"), looks := false }, kinds := [], alts := [], laidByText := true, laidKinds := [.data, .pinned], laidTests := true, laidLooks := .later }
def ScanTwiceCardSaid : Prop := Claim7.holds Tryd.pinned (.plain (OpenSpec.ofChange scanTwiceSpec)) scanTwiceCard

/-- THE SECOND FORM's CARD OF 'godownlaw07.NameRight'. -/
def nameRightUptoCard : Claim7 := { stood := { row := nameRightUptoRow, standIns := [], harness := (true, "af2c4cd421eef38196a194f085c8187d1cb4e564a8b001a50e94556b8c59fbfe"), looks := false }, kinds := [], alts := [], laidByText := true, laidKinds := [.data, .data, .data, .pinned], laidTests := true, laidLooks := .later }
def NameRightUptoCardSaid : Prop := Claim7.holds Tryd.pinned (.plain (OpenSpec.upto nameRightSpec)) nameRightUptoCard

/-- THE SECOND FORM's CARD OF 'godownlaw07.NamePaths'. -/
def namePathsUptoCard : Claim7 := { stood := { row := namePathsUptoRow, standIns := [], harness := (true, "af2c4cd421eef38196a194f085c8187d1cb4e564a8b001a50e94556b8c59fbfe"), looks := false }, kinds := [], alts := [], laidByText := true, laidKinds := [.data, .data, .data, .pinned], laidTests := true, laidLooks := .later }
def NamePathsUptoCardSaid : Prop := Claim7.holds Tryd.pinned (.plain (OpenSpec.upto namePathsSpec)) namePathsUptoCard

/-- THE SECOND FORM's CARD OF 'godownlaw07.NameOwn'. -/
def nameOwnUptoCard : Claim7 := { stood := { row := nameOwnUptoRow, standIns := [], harness := (true, "af2c4cd421eef38196a194f085c8187d1cb4e564a8b001a50e94556b8c59fbfe"), looks := false }, kinds := [], alts := [], laidByText := true, laidKinds := [.data, .data, .data, .pinned], laidTests := true, laidLooks := .later }
def NameOwnUptoCardSaid : Prop := Claim7.holds Tryd.pinned (.plain (OpenSpec.upto nameOwnSpec)) nameOwnUptoCard

/-- THE SECOND FORM's CARD OF 'godownlaw08.ScanFinds'. -/
def scanFindsUptoCard : Claim7 := { stood := { row := scanFindsUptoRow, standIns := [], harness := (true, "af2c4cd421eef38196a194f085c8187d1cb4e564a8b001a50e94556b8c59fbfe"), looks := false }, kinds := [], alts := [], laidByText := true, laidKinds := [.data, .pinned], laidTests := true, laidLooks := .later }
def ScanFindsUptoCardSaid : Prop := Claim7.holds Tryd.pinned (.plain (OpenSpec.upto scanFindsSpec)) scanFindsUptoCard

/-- THE SECOND FORM's CARD OF 'godownlaw08.ScanAnywhere'. -/
def scanAnywhereUptoCard : Claim7 := { stood := { row := scanAnywhereUptoRow, standIns := [], harness := (true, "af2c4cd421eef38196a194f085c8187d1cb4e564a8b001a50e94556b8c59fbfe"), looks := false }, kinds := [], alts := [], laidByText := true, laidKinds := [.data, .pinned], laidTests := true, laidLooks := .later }
def ScanAnywhereUptoCardSaid : Prop := Claim7.holds Tryd.pinned (.plain (OpenSpec.upto scanAnywhereSpec)) scanAnywhereUptoCard

/-- THE SECOND FORM's CARD OF 'godownlaw08.ScanNone'. -/
def scanNoneUptoCard : Claim7 := { stood := { row := scanNoneUptoRow, standIns := [], harness := (true, "af2c4cd421eef38196a194f085c8187d1cb4e564a8b001a50e94556b8c59fbfe"), looks := false }, kinds := [], alts := [], laidByText := true, laidKinds := [.data, .pinned], laidTests := true, laidLooks := .later }
def ScanNoneUptoCardSaid : Prop := Claim7.holds Tryd.pinned (.plain (OpenSpec.upto scanNoneSpec)) scanNoneUptoCard

/-- THE SECOND FORM's CARD OF 'godownlaw08.ScanGrows'. -/
def scanGrowsUptoCard : Claim7 := { stood := { row := scanGrowsUptoRow, standIns := [], harness := (true, "af2c4cd421eef38196a194f085c8187d1cb4e564a8b001a50e94556b8c59fbfe"), looks := false }, kinds := [], alts := [], laidByText := true, laidKinds := [.data, .pinned], laidTests := true, laidLooks := .later }
def ScanGrowsUptoCardSaid : Prop := Claim7.holds Tryd.pinned (.plain (OpenSpec.upto scanGrowsSpec)) scanGrowsUptoCard

/-- THE SECOND FORM's CARD OF 'godownlaw08.ScanTwice'. -/
def scanTwiceUptoCard : Claim7 := { stood := { row := scanTwiceUptoRow, standIns := [], harness := (true, "af2c4cd421eef38196a194f085c8187d1cb4e564a8b001a50e94556b8c59fbfe"), looks := false }, kinds := [], alts := [], laidByText := true, laidKinds := [.data, .pinned], laidTests := true, laidLooks := .later }
def ScanTwiceUptoCardSaid : Prop := Claim7.holds Tryd.pinned (.plain (OpenSpec.upto scanTwiceSpec)) scanTwiceUptoCard
end Rows
end Go.Proofs.YtiijiejncefpmaaDoor
