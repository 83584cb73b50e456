/-
  NARROWER THAN 'FOR EVERY INPUT', by the rows' own cells (each row's printed sentence says how): NameRight: laid · NamePaths: laid · NameOwn: laid · ScanFinds: laid · ScanAnywhere: laid · ScanNone: laid · ScanGrows: laid · ScanTwice: laid.
  DERIVED. THE GIVEN ROWS OF THIS SEAT. 8 by the template 'for every input the law returns true; each argument reads behind the call as it read before'; 0 by the template 'total and deterministic' (their statements: YtiijiejncefpmaaDoorTotals.lean).
  GIVEN WITH THE SEED: the statements are not yours to turn. If you find one false, say at which input.
  Laid BY PROGRAM, IN A SANDBOX (cutbox-rows.mjs): the forced cells as the released guide's own fill.sh prints them over the translation 70d974707ffeb784… (all of the seat's roots in one cut). By AI agents, Wed Nov 11 2026. No macro, syntax, notation, axiom, sorry.
-/
import Derived.Test.YtiijiejncefpmaaDoorChecked
import GoSem.PinnedTables
import GoSem.Claim
import GoSem.ClaimJoined
import GoSem.ClaimMapViews
import Derived.JoinedTies
import Derived.KernelRfl
namespace Go.Proofs.YtiijiejncefpmaaDoor
/- THE CELL 'sum', in the pinned program and in every row, IS THE sha256 OF THE DUMP (.gsa) THAT YtiijiejncefpmaaDoorProg.lean LOADS. Nothing in Lean hashes anything: it is a label: what it is worth is what the hold of that sum in a sandbox is worth. -/
noncomputable def Tryd.pinned : Pinned := { name := "ytiijiejncefpmaadoor", sum := "70d974707ffeb7844e7c10a2f84770887a1507590597c4d491ba59b7693e3998", checked := Tryd.checked }
namespace Rows
def none {H : Type} : Left H := { results := [], args := [] }

/- WHAT THE LISTED PACKAGE-LEVEL VARIABLES READ AS WHEN THE CALL BEGINS. Each datum BY PROGRAM (the guide's laid-datum.mjs) off the statement by which the dump's own 'gosem.cut.vars' lays the variable. In a bare row this is a premise. The card (YtiijiejncefpmaaDoorCards.lean) ties it to the program's text. -/
def laid_godown_hash_first {H : Type} : DataW H := .agg [.lit (.int .u32 1779033703), .lit (.int .u32 3144134277), .lit (.int .u32 1013904242), .lit (.int .u32 2773480762), .lit (.int .u32 1359893119), .lit (.int .u32 2600822924), .lit (.int .u32 528734635), .lit (.int .u32 1541459225)]
def laid_godown_hash_keys {H : Type} : DataW H := .agg [.lit (.int .u32 1116352408), .lit (.int .u32 1899447441), .lit (.int .u32 3049323471), .lit (.int .u32 3921009573), .lit (.int .u32 961987163), .lit (.int .u32 1508970993), .lit (.int .u32 2453635748), .lit (.int .u32 2870763221), .lit (.int .u32 3624381080), .lit (.int .u32 310598401), .lit (.int .u32 607225278), .lit (.int .u32 1426881987), .lit (.int .u32 1925078388), .lit (.int .u32 2162078206), .lit (.int .u32 2614888103), .lit (.int .u32 3248222580), .lit (.int .u32 3835390401), .lit (.int .u32 4022224774), .lit (.int .u32 264347078), .lit (.int .u32 604807628), .lit (.int .u32 770255983), .lit (.int .u32 1249150122), .lit (.int .u32 1555081692), .lit (.int .u32 1996064986), .lit (.int .u32 2554220882), .lit (.int .u32 2821834349), .lit (.int .u32 2952996808), .lit (.int .u32 3210313671), .lit (.int .u32 3336571891), .lit (.int .u32 3584528711), .lit (.int .u32 113926993), .lit (.int .u32 338241895), .lit (.int .u32 666307205), .lit (.int .u32 773529912), .lit (.int .u32 1294757372), .lit (.int .u32 1396182291), .lit (.int .u32 1695183700), .lit (.int .u32 1986661051), .lit (.int .u32 2177026350), .lit (.int .u32 2456956037), .lit (.int .u32 2730485921), .lit (.int .u32 2820302411), .lit (.int .u32 3259730800), .lit (.int .u32 3345764771), .lit (.int .u32 3516065817), .lit (.int .u32 3600352804), .lit (.int .u32 4094571909), .lit (.int .u32 275423344), .lit (.int .u32 430227734), .lit (.int .u32 506948616), .lit (.int .u32 659060556), .lit (.int .u32 883997877), .lit (.int .u32 958139571), .lit (.int .u32 1322822218), .lit (.int .u32 1537002063), .lit (.int .u32 1747873779), .lit (.int .u32 1955562222), .lit (.int .u32 2024104815), .lit (.int .u32 2227730452), .lit (.int .u32 2361852424), .lit (.int .u32 2428436474), .lit (.int .u32 2756734187), .lit (.int .u32 3204031479), .lit (.int .u32 3329325298)]
def laid_unicode_utf8_acceptRanges {H : Type} : DataW H := .agg [.agg [.lit (.int .u8 128), .lit (.int .u8 191)], .agg [.lit (.int .u8 160), .lit (.int .u8 191)], .agg [.lit (.int .u8 128), .lit (.int .u8 159)], .agg [.lit (.int .u8 144), .lit (.int .u8 191)], .agg [.lit (.int .u8 128), .lit (.int .u8 143)], .agg [.lit (.int .u8 0), .lit (.int .u8 0)], .agg [.lit (.int .u8 0), .lit (.int .u8 0)], .agg [.lit (.int .u8 0), .lit (.int .u8 0)], .agg [.lit (.int .u8 0), .lit (.int .u8 0)], .agg [.lit (.int .u8 0), .lit (.int .u8 0)], .agg [.lit (.int .u8 0), .lit (.int .u8 0)], .agg [.lit (.int .u8 0), .lit (.int .u8 0)], .agg [.lit (.int .u8 0), .lit (.int .u8 0)], .agg [.lit (.int .u8 0), .lit (.int .u8 0)], .agg [.lit (.int .u8 0), .lit (.int .u8 0)], .agg [.lit (.int .u8 0), .lit (.int .u8 0)]]
/-- One of Go's own tables, pinned by name: the form's constant. -/
def laid_unicode_utf8_first : DataW Unit := Go.Pinned.utf8First

/-- 'godownlaw07.NameRight': WHATEVER THE INPUT: true; the input reads as it did. -/
def nameRightSpec : ChangeSpec := { name := "nameRight", fn := fun _ => fun
  | [d] => { results := [.lit (.bool true)], args := [d] }
  | _ => none }
def nameRightRow : OpenClaim := { program := "ytiijiejncefpmaadoor", sum := "70d974707ffeb7844e7c10a2f84770887a1507590597c4d491ba59b7693e3998", func := "godown/godownlaw07.NameRight", spec := "nameRight", inPlace := ["internal/bytealg.IndexByteString", "internal/bytealg.IndexString", "internal/abi.NoEscape"], named := ["unicode/utf8.first", "unicode/utf8.acceptRanges", "godown/hash.first", "godown/hash.keys", "internal/bytealg.MaxLen"], apart := false, laid := [("godown/hash.first", laid_godown_hash_first), ("godown/hash.keys", laid_godown_hash_keys), ("unicode/utf8.acceptRanges", laid_unicode_utf8_acceptRanges), ("unicode/utf8.first", laid_unicode_utf8_first)] }
def NameRightSaid : Prop := nameRightRow.holds Tryd.pinned (OpenSpec.ofChange nameRightSpec)

/-- ITS FALSE NEIGHBOUR: 'it returns false'. Refute it at one input. -/
def nameRightWrong : ChangeSpec := { name := "nameRight", fn := fun _ => fun
  | [d] => { results := [.lit (.bool false)], args := [d] }
  | _ => none }
def NameRightWrongFalsely : Prop := nameRightRow.holds Tryd.pinned (OpenSpec.ofChange nameRightWrong)

/-- 'godownlaw07.NamePaths': WHATEVER THE INPUT: true; the input reads as it did. -/
def namePathsSpec : ChangeSpec := { name := "namePaths", fn := fun _ => fun
  | [d1, d2, d3, d4] => { results := [.lit (.bool true)], args := [d1, d2, d3, d4] }
  | _ => none }
def namePathsRow : OpenClaim := { program := "ytiijiejncefpmaadoor", sum := "70d974707ffeb7844e7c10a2f84770887a1507590597c4d491ba59b7693e3998", func := "godown/godownlaw07.NamePaths", spec := "namePaths", inPlace := ["internal/bytealg.IndexByteString", "internal/bytealg.IndexString", "internal/abi.NoEscape"], named := ["unicode/utf8.first", "unicode/utf8.acceptRanges", "godown/hash.first", "godown/hash.keys", "internal/bytealg.MaxLen"], apart := false, laid := [("godown/hash.first", laid_godown_hash_first), ("godown/hash.keys", laid_godown_hash_keys), ("unicode/utf8.acceptRanges", laid_unicode_utf8_acceptRanges), ("unicode/utf8.first", laid_unicode_utf8_first)] }
def NamePathsSaid : Prop := namePathsRow.holds Tryd.pinned (OpenSpec.ofChange namePathsSpec)

/-- ITS FALSE NEIGHBOUR: 'it returns false'. Refute it at one input. -/
def namePathsWrong : ChangeSpec := { name := "namePaths", fn := fun _ => fun
  | [d1, d2, d3, d4] => { results := [.lit (.bool false)], args := [d1, d2, d3, d4] }
  | _ => none }
def NamePathsWrongFalsely : Prop := namePathsRow.holds Tryd.pinned (OpenSpec.ofChange namePathsWrong)

/-- 'godownlaw07.NameOwn': WHATEVER THE INPUT: true; the input reads as it did. -/
def nameOwnSpec : ChangeSpec := { name := "nameOwn", fn := fun _ => fun
  | [d1, d2, d3] => { results := [.lit (.bool true)], args := [d1, d2, d3] }
  | _ => none }
def nameOwnRow : OpenClaim := { program := "ytiijiejncefpmaadoor", sum := "70d974707ffeb7844e7c10a2f84770887a1507590597c4d491ba59b7693e3998", func := "godown/godownlaw07.NameOwn", spec := "nameOwn", inPlace := ["internal/bytealg.IndexByteString", "internal/bytealg.IndexString", "internal/abi.NoEscape"], named := ["unicode/utf8.first", "unicode/utf8.acceptRanges", "godown/hash.first", "godown/hash.keys", "internal/bytealg.MaxLen"], apart := false, laid := [("godown/hash.first", laid_godown_hash_first), ("godown/hash.keys", laid_godown_hash_keys), ("unicode/utf8.acceptRanges", laid_unicode_utf8_acceptRanges), ("unicode/utf8.first", laid_unicode_utf8_first)] }
def NameOwnSaid : Prop := nameOwnRow.holds Tryd.pinned (OpenSpec.ofChange nameOwnSpec)

/-- ITS FALSE NEIGHBOUR: 'it returns false'. Refute it at one input. -/
def nameOwnWrong : ChangeSpec := { name := "nameOwn", fn := fun _ => fun
  | [d1, d2, d3] => { results := [.lit (.bool false)], args := [d1, d2, d3] }
  | _ => none }
def NameOwnWrongFalsely : Prop := nameOwnRow.holds Tryd.pinned (OpenSpec.ofChange nameOwnWrong)

/-- 'godownlaw08.ScanFinds': WHATEVER THE INPUT: true; the input reads as it did. -/
def scanFindsSpec : ChangeSpec := { name := "scanFinds", fn := fun _ => fun
  | [d1, d2] => { results := [.lit (.bool true)], args := [d1, d2] }
  | _ => none }
def scanFindsRow : OpenClaim := { program := "ytiijiejncefpmaadoor", sum := "70d974707ffeb7844e7c10a2f84770887a1507590597c4d491ba59b7693e3998", func := "godown/godownlaw08.ScanFinds", spec := "scanFinds", inPlace := ["internal/bytealg.IndexByteString", "internal/bytealg.IndexString", "internal/abi.NoEscape"], recurses := true, named := ["unicode/utf8.first", "unicode/utf8.acceptRanges", "internal/bytealg.MaxLen"], apart := false, laid := [("unicode/utf8.acceptRanges", laid_unicode_utf8_acceptRanges), ("unicode/utf8.first", laid_unicode_utf8_first)] }
def ScanFindsSaid : Prop := scanFindsRow.holds Tryd.pinned (OpenSpec.ofChange scanFindsSpec)

/-- ITS FALSE NEIGHBOUR: 'it returns false'. Refute it at one input. -/
def scanFindsWrong : ChangeSpec := { name := "scanFinds", fn := fun _ => fun
  | [d1, d2] => { results := [.lit (.bool false)], args := [d1, d2] }
  | _ => none }
def ScanFindsWrongFalsely : Prop := scanFindsRow.holds Tryd.pinned (OpenSpec.ofChange scanFindsWrong)

/-- 'godownlaw08.ScanAnywhere': WHATEVER THE INPUT: true; the input reads as it did. -/
def scanAnywhereSpec : ChangeSpec := { name := "scanAnywhere", fn := fun _ => fun
  | [d1, d2, d3] => { results := [.lit (.bool true)], args := [d1, d2, d3] }
  | _ => none }
def scanAnywhereRow : OpenClaim := { program := "ytiijiejncefpmaadoor", sum := "70d974707ffeb7844e7c10a2f84770887a1507590597c4d491ba59b7693e3998", func := "godown/godownlaw08.ScanAnywhere", spec := "scanAnywhere", inPlace := ["internal/bytealg.IndexByteString", "internal/bytealg.IndexString", "internal/abi.NoEscape"], recurses := true, named := ["unicode/utf8.first", "unicode/utf8.acceptRanges", "internal/bytealg.MaxLen"], apart := false, laid := [("unicode/utf8.acceptRanges", laid_unicode_utf8_acceptRanges), ("unicode/utf8.first", laid_unicode_utf8_first)] }
def ScanAnywhereSaid : Prop := scanAnywhereRow.holds Tryd.pinned (OpenSpec.ofChange scanAnywhereSpec)

/-- ITS FALSE NEIGHBOUR: 'it returns false'. Refute it at one input. -/
def scanAnywhereWrong : ChangeSpec := { name := "scanAnywhere", fn := fun _ => fun
  | [d1, d2, d3] => { results := [.lit (.bool false)], args := [d1, d2, d3] }
  | _ => none }
def ScanAnywhereWrongFalsely : Prop := scanAnywhereRow.holds Tryd.pinned (OpenSpec.ofChange scanAnywhereWrong)

/-- 'godownlaw08.ScanNone': WHATEVER THE INPUT: true; the input reads as it did. -/
def scanNoneSpec : ChangeSpec := { name := "scanNone", fn := fun _ => fun
  | [d1, d2] => { results := [.lit (.bool true)], args := [d1, d2] }
  | _ => none }
def scanNoneRow : OpenClaim := { program := "ytiijiejncefpmaadoor", sum := "70d974707ffeb7844e7c10a2f84770887a1507590597c4d491ba59b7693e3998", func := "godown/godownlaw08.ScanNone", spec := "scanNone", inPlace := ["internal/bytealg.IndexByteString", "internal/bytealg.IndexString", "internal/abi.NoEscape"], recurses := true, named := ["unicode/utf8.first", "unicode/utf8.acceptRanges", "internal/bytealg.MaxLen"], apart := false, laid := [("unicode/utf8.acceptRanges", laid_unicode_utf8_acceptRanges), ("unicode/utf8.first", laid_unicode_utf8_first)] }
def ScanNoneSaid : Prop := scanNoneRow.holds Tryd.pinned (OpenSpec.ofChange scanNoneSpec)

/-- ITS FALSE NEIGHBOUR: 'it returns false'. Refute it at one input. -/
def scanNoneWrong : ChangeSpec := { name := "scanNone", fn := fun _ => fun
  | [d1, d2] => { results := [.lit (.bool false)], args := [d1, d2] }
  | _ => none }
def ScanNoneWrongFalsely : Prop := scanNoneRow.holds Tryd.pinned (OpenSpec.ofChange scanNoneWrong)

/-- 'godownlaw08.ScanGrows': WHATEVER THE INPUT: true; the input reads as it did. -/
def scanGrowsSpec : ChangeSpec := { name := "scanGrows", fn := fun _ => fun
  | [d1, d2, d3] => { results := [.lit (.bool true)], args := [d1, d2, d3] }
  | _ => none }
def scanGrowsRow : OpenClaim := { program := "ytiijiejncefpmaadoor", sum := "70d974707ffeb7844e7c10a2f84770887a1507590597c4d491ba59b7693e3998", func := "godown/godownlaw08.ScanGrows", spec := "scanGrows", inPlace := ["internal/bytealg.IndexByteString", "internal/bytealg.IndexString", "internal/abi.NoEscape"], recurses := true, named := ["unicode/utf8.first", "unicode/utf8.acceptRanges", "internal/bytealg.MaxLen"], apart := false, laid := [("unicode/utf8.acceptRanges", laid_unicode_utf8_acceptRanges), ("unicode/utf8.first", laid_unicode_utf8_first)] }
def ScanGrowsSaid : Prop := scanGrowsRow.holds Tryd.pinned (OpenSpec.ofChange scanGrowsSpec)

/-- ITS FALSE NEIGHBOUR: 'it returns false'. Refute it at one input. -/
def scanGrowsWrong : ChangeSpec := { name := "scanGrows", fn := fun _ => fun
  | [d1, d2, d3] => { results := [.lit (.bool false)], args := [d1, d2, d3] }
  | _ => none }
def ScanGrowsWrongFalsely : Prop := scanGrowsRow.holds Tryd.pinned (OpenSpec.ofChange scanGrowsWrong)

/-- 'godownlaw08.ScanTwice': WHATEVER THE INPUT: true; the input reads as it did. -/
def scanTwiceSpec : ChangeSpec := { name := "scanTwice", fn := fun _ => fun
  | [d1, d2, d3] => { results := [.lit (.bool true)], args := [d1, d2, d3] }
  | _ => none }
def scanTwiceRow : OpenClaim := { program := "ytiijiejncefpmaadoor", sum := "70d974707ffeb7844e7c10a2f84770887a1507590597c4d491ba59b7693e3998", func := "godown/godownlaw08.ScanTwice", spec := "scanTwice", inPlace := ["internal/bytealg.IndexByteString", "internal/bytealg.IndexString", "internal/abi.NoEscape"], recurses := true, named := ["unicode/utf8.first", "unicode/utf8.acceptRanges", "internal/bytealg.MaxLen"], apart := false, laid := [("unicode/utf8.acceptRanges", laid_unicode_utf8_acceptRanges), ("unicode/utf8.first", laid_unicode_utf8_first)] }
def ScanTwiceSaid : Prop := scanTwiceRow.holds Tryd.pinned (OpenSpec.ofChange scanTwiceSpec)

/-- ITS FALSE NEIGHBOUR: 'it returns false'. Refute it at one input. -/
def scanTwiceWrong : ChangeSpec := { name := "scanTwice", fn := fun _ => fun
  | [d1, d2, d3] => { results := [.lit (.bool false)], args := [d1, d2, d3] }
  | _ => none }
def ScanTwiceWrongFalsely : Prop := scanTwiceRow.holds Tryd.pinned (OpenSpec.ofChange scanTwiceWrong)

/- THE SECOND FORM. 'bulk': how many values and letters a reading holds, each counted each time it is reached (what is shared counts as often as it is met; a slice's spare places count too). A statement '..UptoSaid' is the law's where the arguments, and the package variables that the reading takes, are together of bulk at most 1048576: NARROWER than '..Said'. Prove '..Said' where nothing that the law and all that it calls make is longer than what came in: it says more and counts as full. Else prove '..UptoSaid'. A law counts once. -/
mutual
def uptoBulk {H : Type} : DataW H → Nat
  | .lit (.string bytes) => bytes.length + 1
  | .lit _ => 1
  | .nil => 1
  | .ptr d => uptoBulk d + 1
  | .slice elems spare => uptoBulkAll elems + uptoBulkAll spare + 1
  | .agg parts => uptoBulkAll parts + 1
  | .iface _ d => uptoBulk d + 1
  | .map entries => uptoBulkEntries entries + 1
  | .held _ => 1
def uptoBulkAll {H : Type} : List (DataW H) → Nat
  | [] => 0
  | d :: r => uptoBulk d + uptoBulkAll r
def uptoBulkEntries {H : Type} : List (Lit × DataW H) → Nat
  | [] => 0
  | x :: r => uptoBulkEntry x + uptoBulkEntries r
def uptoBulkEntry {H : Type} : Lit × DataW H → Nat
  | (.string bytes, d) => bytes.length + uptoBulk d + 1
  | (_, d) => uptoBulk d + 1
 end
def uptoSmall : (H : Type) → List (DataW H) → Bool := fun _ ds => decide (uptoBulkAll ds ≤ 1048576)
def OpenSpec.upto (s : _root_.Go.ChangeSpec) : _root_.Go.OpenSpec := { _root_.Go.OpenSpec.ofChange s with cond := some uptoSmall }

/-- 'godownlaw07.NameRight', WHERE WHAT IT READS IS OF BULK AT MOST 1048576: true; the input reads as it did. -/
def nameRightUptoRow : OpenClaim := { program := "ytiijiejncefpmaadoor", sum := "70d974707ffeb7844e7c10a2f84770887a1507590597c4d491ba59b7693e3998", func := "godown/godownlaw07.NameRight", spec := "nameRight", inPlace := ["internal/bytealg.IndexByteString", "internal/bytealg.IndexString", "internal/abi.NoEscape"], named := ["unicode/utf8.first", "unicode/utf8.acceptRanges", "godown/hash.first", "godown/hash.keys", "internal/bytealg.MaxLen"], apart := false, laid := [("godown/hash.first", laid_godown_hash_first), ("godown/hash.keys", laid_godown_hash_keys), ("unicode/utf8.acceptRanges", laid_unicode_utf8_acceptRanges), ("unicode/utf8.first", laid_unicode_utf8_first)], narrowed := true }
def NameRightUptoSaid : Prop := nameRightUptoRow.holds Tryd.pinned (OpenSpec.upto nameRightSpec)

/-- 'godownlaw07.NamePaths', WHERE WHAT IT READS IS OF BULK AT MOST 1048576: true; the input reads as it did. -/
def namePathsUptoRow : OpenClaim := { program := "ytiijiejncefpmaadoor", sum := "70d974707ffeb7844e7c10a2f84770887a1507590597c4d491ba59b7693e3998", func := "godown/godownlaw07.NamePaths", spec := "namePaths", inPlace := ["internal/bytealg.IndexByteString", "internal/bytealg.IndexString", "internal/abi.NoEscape"], named := ["unicode/utf8.first", "unicode/utf8.acceptRanges", "godown/hash.first", "godown/hash.keys", "internal/bytealg.MaxLen"], apart := false, laid := [("godown/hash.first", laid_godown_hash_first), ("godown/hash.keys", laid_godown_hash_keys), ("unicode/utf8.acceptRanges", laid_unicode_utf8_acceptRanges), ("unicode/utf8.first", laid_unicode_utf8_first)], narrowed := true }
def NamePathsUptoSaid : Prop := namePathsUptoRow.holds Tryd.pinned (OpenSpec.upto namePathsSpec)

/-- 'godownlaw07.NameOwn', WHERE WHAT IT READS IS OF BULK AT MOST 1048576: true; the input reads as it did. -/
def nameOwnUptoRow : OpenClaim := { program := "ytiijiejncefpmaadoor", sum := "70d974707ffeb7844e7c10a2f84770887a1507590597c4d491ba59b7693e3998", func := "godown/godownlaw07.NameOwn", spec := "nameOwn", inPlace := ["internal/bytealg.IndexByteString", "internal/bytealg.IndexString", "internal/abi.NoEscape"], named := ["unicode/utf8.first", "unicode/utf8.acceptRanges", "godown/hash.first", "godown/hash.keys", "internal/bytealg.MaxLen"], apart := false, laid := [("godown/hash.first", laid_godown_hash_first), ("godown/hash.keys", laid_godown_hash_keys), ("unicode/utf8.acceptRanges", laid_unicode_utf8_acceptRanges), ("unicode/utf8.first", laid_unicode_utf8_first)], narrowed := true }
def NameOwnUptoSaid : Prop := nameOwnUptoRow.holds Tryd.pinned (OpenSpec.upto nameOwnSpec)

/-- 'godownlaw08.ScanFinds', WHERE WHAT IT READS IS OF BULK AT MOST 1048576: true; the input reads as it did. -/
def scanFindsUptoRow : OpenClaim := { program := "ytiijiejncefpmaadoor", sum := "70d974707ffeb7844e7c10a2f84770887a1507590597c4d491ba59b7693e3998", func := "godown/godownlaw08.ScanFinds", spec := "scanFinds", inPlace := ["internal/bytealg.IndexByteString", "internal/bytealg.IndexString", "internal/abi.NoEscape"], recurses := true, named := ["unicode/utf8.first", "unicode/utf8.acceptRanges", "internal/bytealg.MaxLen"], apart := false, laid := [("unicode/utf8.acceptRanges", laid_unicode_utf8_acceptRanges), ("unicode/utf8.first", laid_unicode_utf8_first)], narrowed := true }
def ScanFindsUptoSaid : Prop := scanFindsUptoRow.holds Tryd.pinned (OpenSpec.upto scanFindsSpec)

/-- 'godownlaw08.ScanAnywhere', WHERE WHAT IT READS IS OF BULK AT MOST 1048576: true; the input reads as it did. -/
def scanAnywhereUptoRow : OpenClaim := { program := "ytiijiejncefpmaadoor", sum := "70d974707ffeb7844e7c10a2f84770887a1507590597c4d491ba59b7693e3998", func := "godown/godownlaw08.ScanAnywhere", spec := "scanAnywhere", inPlace := ["internal/bytealg.IndexByteString", "internal/bytealg.IndexString", "internal/abi.NoEscape"], recurses := true, named := ["unicode/utf8.first", "unicode/utf8.acceptRanges", "internal/bytealg.MaxLen"], apart := false, laid := [("unicode/utf8.acceptRanges", laid_unicode_utf8_acceptRanges), ("unicode/utf8.first", laid_unicode_utf8_first)], narrowed := true }
def ScanAnywhereUptoSaid : Prop := scanAnywhereUptoRow.holds Tryd.pinned (OpenSpec.upto scanAnywhereSpec)

/-- 'godownlaw08.ScanNone', WHERE WHAT IT READS IS OF BULK AT MOST 1048576: true; the input reads as it did. -/
def scanNoneUptoRow : OpenClaim := { program := "ytiijiejncefpmaadoor", sum := "70d974707ffeb7844e7c10a2f84770887a1507590597c4d491ba59b7693e3998", func := "godown/godownlaw08.ScanNone", spec := "scanNone", inPlace := ["internal/bytealg.IndexByteString", "internal/bytealg.IndexString", "internal/abi.NoEscape"], recurses := true, named := ["unicode/utf8.first", "unicode/utf8.acceptRanges", "internal/bytealg.MaxLen"], apart := false, laid := [("unicode/utf8.acceptRanges", laid_unicode_utf8_acceptRanges), ("unicode/utf8.first", laid_unicode_utf8_first)], narrowed := true }
def ScanNoneUptoSaid : Prop := scanNoneUptoRow.holds Tryd.pinned (OpenSpec.upto scanNoneSpec)

/-- 'godownlaw08.ScanGrows', WHERE WHAT IT READS IS OF BULK AT MOST 1048576: true; the input reads as it did. -/
def scanGrowsUptoRow : OpenClaim := { program := "ytiijiejncefpmaadoor", sum := "70d974707ffeb7844e7c10a2f84770887a1507590597c4d491ba59b7693e3998", func := "godown/godownlaw08.ScanGrows", spec := "scanGrows", inPlace := ["internal/bytealg.IndexByteString", "internal/bytealg.IndexString", "internal/abi.NoEscape"], recurses := true, named := ["unicode/utf8.first", "unicode/utf8.acceptRanges", "internal/bytealg.MaxLen"], apart := false, laid := [("unicode/utf8.acceptRanges", laid_unicode_utf8_acceptRanges), ("unicode/utf8.first", laid_unicode_utf8_first)], narrowed := true }
def ScanGrowsUptoSaid : Prop := scanGrowsUptoRow.holds Tryd.pinned (OpenSpec.upto scanGrowsSpec)

/-- 'godownlaw08.ScanTwice', WHERE WHAT IT READS IS OF BULK AT MOST 1048576: true; the input reads as it did. -/
def scanTwiceUptoRow : OpenClaim := { program := "ytiijiejncefpmaadoor", sum := "70d974707ffeb7844e7c10a2f84770887a1507590597c4d491ba59b7693e3998", func := "godown/godownlaw08.ScanTwice", spec := "scanTwice", inPlace := ["internal/bytealg.IndexByteString", "internal/bytealg.IndexString", "internal/abi.NoEscape"], recurses := true, named := ["unicode/utf8.first", "unicode/utf8.acceptRanges", "internal/bytealg.MaxLen"], apart := false, laid := [("unicode/utf8.acceptRanges", laid_unicode_utf8_acceptRanges), ("unicode/utf8.first", laid_unicode_utf8_first)], narrowed := true }
def ScanTwiceUptoSaid : Prop := scanTwiceUptoRow.holds Tryd.pinned (OpenSpec.upto scanTwiceSpec)

end Rows
end Go.Proofs.YtiijiejncefpmaaDoor
