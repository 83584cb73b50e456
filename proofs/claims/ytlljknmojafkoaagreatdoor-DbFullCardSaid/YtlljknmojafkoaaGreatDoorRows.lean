/-
  NARROWER THAN 'FOR EVERY INPUT', by the rows' own cells (each row's printed sentence says how): DbFull: laid · AtomRows: laid · AtomOrder: laid · AtomFinds: laid · AtomSwept: laid · AtomPlays: laid · AtomTwice: laid · AtomOthers: laid · AtomReads: laid.
  DERIVED. THE GIVEN ROWS OF THIS SEAT. 9 by the template 'for every input the law returns true; each argument reads behind the call as it read before'; 0 by the template 'total and deterministic' (their statements: YtlljknmojafkoaaGreatDoorTotals.lean).
  GIVEN WITH THE SEED: the statements are not yours to turn. If you find one false, say at which input.
  Laid BY PROGRAM, IN A SANDBOX (cutbox-rows.mjs): the forced cells as the released guide's own fill.sh prints them over the translation 4c2df26db7ed1213… (all of the seat's roots in one cut). By AI agents, Wed Nov 11 2026. No macro, syntax, notation, axiom, sorry.
-/
import Derived.Test.YtlljknmojafkoaaGreatDoorChecked
import GoSem.PinnedTables
import GoSem.Claim
import GoSem.ClaimJoined
import GoSem.ClaimMapViews
import Derived.JoinedTies
import Derived.KernelRfl
namespace Go.Proofs.YtlljknmojafkoaaGreatDoor
/- THE CELL 'sum', in the pinned program and in every row, IS THE sha256 OF THE DUMP (.gsa) THAT YtlljknmojafkoaaGreatDoorProg.lean LOADS. Nothing in Lean hashes anything: it is a label: what it is worth is what the hold of that sum in a sandbox is worth. -/
noncomputable def Tryz.pinned : Pinned := { name := "ytlljknmojafkoaagreatdoor", sum := "4c2df26db7ed121350b73ab81355ec5bbb0e704498800dd4be917365d21d3360", checked := Tryz.checked }
namespace Rows
def none {H : Type} : Left H := { results := [], args := [] }

/- WHAT THE LISTED PACKAGE-LEVEL VARIABLES READ AS WHEN THE CALL BEGINS. Each datum BY PROGRAM (the guide's laid-datum.mjs) off the statement by which the dump's own 'gosem.cut.vars' lays the variable. In a bare row this is a premise. The card (YtlljknmojafkoaaGreatDoorCards.lean) ties it to the program's text. -/
def laid_godown_hash_first {H : Type} : DataW H := .agg [.lit (.int .u32 1779033703), .lit (.int .u32 3144134277), .lit (.int .u32 1013904242), .lit (.int .u32 2773480762), .lit (.int .u32 1359893119), .lit (.int .u32 2600822924), .lit (.int .u32 528734635), .lit (.int .u32 1541459225)]
def laid_godown_hash_keys {H : Type} : DataW H := .agg [.lit (.int .u32 1116352408), .lit (.int .u32 1899447441), .lit (.int .u32 3049323471), .lit (.int .u32 3921009573), .lit (.int .u32 961987163), .lit (.int .u32 1508970993), .lit (.int .u32 2453635748), .lit (.int .u32 2870763221), .lit (.int .u32 3624381080), .lit (.int .u32 310598401), .lit (.int .u32 607225278), .lit (.int .u32 1426881987), .lit (.int .u32 1925078388), .lit (.int .u32 2162078206), .lit (.int .u32 2614888103), .lit (.int .u32 3248222580), .lit (.int .u32 3835390401), .lit (.int .u32 4022224774), .lit (.int .u32 264347078), .lit (.int .u32 604807628), .lit (.int .u32 770255983), .lit (.int .u32 1249150122), .lit (.int .u32 1555081692), .lit (.int .u32 1996064986), .lit (.int .u32 2554220882), .lit (.int .u32 2821834349), .lit (.int .u32 2952996808), .lit (.int .u32 3210313671), .lit (.int .u32 3336571891), .lit (.int .u32 3584528711), .lit (.int .u32 113926993), .lit (.int .u32 338241895), .lit (.int .u32 666307205), .lit (.int .u32 773529912), .lit (.int .u32 1294757372), .lit (.int .u32 1396182291), .lit (.int .u32 1695183700), .lit (.int .u32 1986661051), .lit (.int .u32 2177026350), .lit (.int .u32 2456956037), .lit (.int .u32 2730485921), .lit (.int .u32 2820302411), .lit (.int .u32 3259730800), .lit (.int .u32 3345764771), .lit (.int .u32 3516065817), .lit (.int .u32 3600352804), .lit (.int .u32 4094571909), .lit (.int .u32 275423344), .lit (.int .u32 430227734), .lit (.int .u32 506948616), .lit (.int .u32 659060556), .lit (.int .u32 883997877), .lit (.int .u32 958139571), .lit (.int .u32 1322822218), .lit (.int .u32 1537002063), .lit (.int .u32 1747873779), .lit (.int .u32 1955562222), .lit (.int .u32 2024104815), .lit (.int .u32 2227730452), .lit (.int .u32 2361852424), .lit (.int .u32 2428436474), .lit (.int .u32 2756734187), .lit (.int .u32 3204031479), .lit (.int .u32 3329325298)]
def laid_unicode_utf8_acceptRanges {H : Type} : DataW H := .agg [.agg [.lit (.int .u8 128), .lit (.int .u8 191)], .agg [.lit (.int .u8 160), .lit (.int .u8 191)], .agg [.lit (.int .u8 128), .lit (.int .u8 159)], .agg [.lit (.int .u8 144), .lit (.int .u8 191)], .agg [.lit (.int .u8 128), .lit (.int .u8 143)], .agg [.lit (.int .u8 0), .lit (.int .u8 0)], .agg [.lit (.int .u8 0), .lit (.int .u8 0)], .agg [.lit (.int .u8 0), .lit (.int .u8 0)], .agg [.lit (.int .u8 0), .lit (.int .u8 0)], .agg [.lit (.int .u8 0), .lit (.int .u8 0)], .agg [.lit (.int .u8 0), .lit (.int .u8 0)], .agg [.lit (.int .u8 0), .lit (.int .u8 0)], .agg [.lit (.int .u8 0), .lit (.int .u8 0)], .agg [.lit (.int .u8 0), .lit (.int .u8 0)], .agg [.lit (.int .u8 0), .lit (.int .u8 0)], .agg [.lit (.int .u8 0), .lit (.int .u8 0)]]
/-- One of Go's own tables, pinned by name: the form's constant. -/
def laid_unicode_utf8_first : DataW Unit := Go.Pinned.utf8First

/-- 'godownlaw10.DbFull': WHATEVER THE INPUT: true; the input reads as it did. -/
def dbFullSpec : ChangeSpec := { name := "dbFull", fn := fun _ => fun
  | [d] => { results := [.lit (.bool true)], args := [d] }
  | _ => none }
def dbFullRow : OpenClaim := { program := "ytlljknmojafkoaagreatdoor", sum := "4c2df26db7ed121350b73ab81355ec5bbb0e704498800dd4be917365d21d3360", func := "godown/godownlaw10.DbFull", spec := "dbFull", inPlace := ["internal/bytealg.IndexByteString", "internal/bytealg.IndexString", "internal/abi.NoEscape"], unfollowed := true, recurses := true, named := ["unicode/utf8.first", "unicode/utf8.acceptRanges", "godown/hash.first", "godown/hash.keys", "internal/bytealg.MaxLen"], apart := false, laid := [("godown/hash.first", laid_godown_hash_first), ("godown/hash.keys", laid_godown_hash_keys), ("unicode/utf8.acceptRanges", laid_unicode_utf8_acceptRanges), ("unicode/utf8.first", laid_unicode_utf8_first)] }
def DbFullSaid : Prop := dbFullRow.holds Tryz.pinned (OpenSpec.ofChange dbFullSpec)

/-- ITS FALSE NEIGHBOUR: 'it returns false'. Refute it at one input. -/
def dbFullWrong : ChangeSpec := { name := "dbFull", fn := fun _ => fun
  | [d] => { results := [.lit (.bool false)], args := [d] }
  | _ => none }
def DbFullWrongFalsely : Prop := dbFullRow.holds Tryz.pinned (OpenSpec.ofChange dbFullWrong)

/-- 'godownlaw12.AtomRows': WHATEVER THE INPUT: true; the input reads as it did. -/
def atomRowsSpec : ChangeSpec := { name := "atomRows", fn := fun _ => fun
  | [d1, d2] => { results := [.lit (.bool true)], args := [d1, d2] }
  | _ => none }
def atomRowsRow : OpenClaim := { program := "ytlljknmojafkoaagreatdoor", sum := "4c2df26db7ed121350b73ab81355ec5bbb0e704498800dd4be917365d21d3360", func := "godown/godownlaw12.AtomRows", spec := "atomRows", inPlace := ["internal/bytealg.IndexByteString", "internal/bytealg.IndexString", "internal/abi.NoEscape", "math.Float64frombits", "math.Float64bits"], unfollowed := true, recurses := true, named := ["unicode/utf8.first", "unicode/utf8.acceptRanges", "godown/hash.first", "godown/hash.keys", "internal/bytealg.MaxLen"], apart := false, laid := [("godown/hash.first", laid_godown_hash_first), ("godown/hash.keys", laid_godown_hash_keys), ("unicode/utf8.acceptRanges", laid_unicode_utf8_acceptRanges), ("unicode/utf8.first", laid_unicode_utf8_first)] }
def AtomRowsSaid : Prop := atomRowsRow.holds Tryz.pinned (OpenSpec.ofChange atomRowsSpec)

/-- ITS FALSE NEIGHBOUR: 'it returns false'. Refute it at one input. -/
def atomRowsWrong : ChangeSpec := { name := "atomRows", fn := fun _ => fun
  | [d1, d2] => { results := [.lit (.bool false)], args := [d1, d2] }
  | _ => none }
def AtomRowsWrongFalsely : Prop := atomRowsRow.holds Tryz.pinned (OpenSpec.ofChange atomRowsWrong)

/-- 'godownlaw12.AtomOrder': WHATEVER THE INPUT: true; the input reads as it did. -/
def atomOrderSpec : ChangeSpec := { name := "atomOrder", fn := fun _ => fun
  | [d1, d2, d3] => { results := [.lit (.bool true)], args := [d1, d2, d3] }
  | _ => none }
def atomOrderRow : OpenClaim := { program := "ytlljknmojafkoaagreatdoor", sum := "4c2df26db7ed121350b73ab81355ec5bbb0e704498800dd4be917365d21d3360", func := "godown/godownlaw12.AtomOrder", spec := "atomOrder", inPlace := ["internal/bytealg.IndexByteString", "internal/bytealg.IndexString", "internal/abi.NoEscape", "math.Float64frombits", "math.Float64bits"], unfollowed := true, recurses := true, named := ["unicode/utf8.first", "unicode/utf8.acceptRanges", "godown/hash.first", "godown/hash.keys", "internal/bytealg.MaxLen"], apart := false, laid := [("godown/hash.first", laid_godown_hash_first), ("godown/hash.keys", laid_godown_hash_keys), ("unicode/utf8.acceptRanges", laid_unicode_utf8_acceptRanges), ("unicode/utf8.first", laid_unicode_utf8_first)] }
def AtomOrderSaid : Prop := atomOrderRow.holds Tryz.pinned (OpenSpec.ofChange atomOrderSpec)

/-- ITS FALSE NEIGHBOUR: 'it returns false'. Refute it at one input. -/
def atomOrderWrong : ChangeSpec := { name := "atomOrder", fn := fun _ => fun
  | [d1, d2, d3] => { results := [.lit (.bool false)], args := [d1, d2, d3] }
  | _ => none }
def AtomOrderWrongFalsely : Prop := atomOrderRow.holds Tryz.pinned (OpenSpec.ofChange atomOrderWrong)

/-- 'godownlaw12.AtomFinds': WHATEVER THE INPUT: true; the input reads as it did. -/
def atomFindsSpec : ChangeSpec := { name := "atomFinds", fn := fun _ => fun
  | [d1, d2] => { results := [.lit (.bool true)], args := [d1, d2] }
  | _ => none }
def atomFindsRow : OpenClaim := { program := "ytlljknmojafkoaagreatdoor", sum := "4c2df26db7ed121350b73ab81355ec5bbb0e704498800dd4be917365d21d3360", func := "godown/godownlaw12.AtomFinds", spec := "atomFinds", inPlace := ["internal/bytealg.IndexByteString", "internal/bytealg.IndexString", "internal/abi.NoEscape", "math.Float64frombits", "math.Float64bits"], unfollowed := true, recurses := true, named := ["unicode/utf8.first", "unicode/utf8.acceptRanges", "godown/hash.first", "godown/hash.keys", "internal/bytealg.MaxLen"], apart := false, laid := [("godown/hash.first", laid_godown_hash_first), ("godown/hash.keys", laid_godown_hash_keys), ("unicode/utf8.acceptRanges", laid_unicode_utf8_acceptRanges), ("unicode/utf8.first", laid_unicode_utf8_first)] }
def AtomFindsSaid : Prop := atomFindsRow.holds Tryz.pinned (OpenSpec.ofChange atomFindsSpec)

/-- ITS FALSE NEIGHBOUR: 'it returns false'. Refute it at one input. -/
def atomFindsWrong : ChangeSpec := { name := "atomFinds", fn := fun _ => fun
  | [d1, d2] => { results := [.lit (.bool false)], args := [d1, d2] }
  | _ => none }
def AtomFindsWrongFalsely : Prop := atomFindsRow.holds Tryz.pinned (OpenSpec.ofChange atomFindsWrong)

/-- 'godownlaw12.AtomSwept': WHATEVER THE INPUT: true; the input reads as it did. -/
def atomSweptSpec : ChangeSpec := { name := "atomSwept", fn := fun _ => fun
  | [d] => { results := [.lit (.bool true)], args := [d] }
  | _ => none }
def atomSweptRow : OpenClaim := { program := "ytlljknmojafkoaagreatdoor", sum := "4c2df26db7ed121350b73ab81355ec5bbb0e704498800dd4be917365d21d3360", func := "godown/godownlaw12.AtomSwept", spec := "atomSwept", inPlace := ["internal/bytealg.IndexByteString", "internal/bytealg.IndexString", "internal/abi.NoEscape", "math.Float64frombits", "math.Float64bits"], unfollowed := true, recurses := true, named := ["unicode/utf8.first", "unicode/utf8.acceptRanges", "godown/hash.first", "godown/hash.keys", "internal/bytealg.MaxLen"], apart := false, laid := [("godown/hash.first", laid_godown_hash_first), ("godown/hash.keys", laid_godown_hash_keys), ("unicode/utf8.acceptRanges", laid_unicode_utf8_acceptRanges), ("unicode/utf8.first", laid_unicode_utf8_first)] }
def AtomSweptSaid : Prop := atomSweptRow.holds Tryz.pinned (OpenSpec.ofChange atomSweptSpec)

/-- ITS FALSE NEIGHBOUR: 'it returns false'. Refute it at one input. -/
def atomSweptWrong : ChangeSpec := { name := "atomSwept", fn := fun _ => fun
  | [d] => { results := [.lit (.bool false)], args := [d] }
  | _ => none }
def AtomSweptWrongFalsely : Prop := atomSweptRow.holds Tryz.pinned (OpenSpec.ofChange atomSweptWrong)

/-- 'godownlaw12.AtomPlays': WHATEVER THE INPUT: true; the input reads as it did. -/
def atomPlaysSpec : ChangeSpec := { name := "atomPlays", fn := fun _ => fun
  | [d] => { results := [.lit (.bool true)], args := [d] }
  | _ => none }
def atomPlaysRow : OpenClaim := { program := "ytlljknmojafkoaagreatdoor", sum := "4c2df26db7ed121350b73ab81355ec5bbb0e704498800dd4be917365d21d3360", func := "godown/godownlaw12.AtomPlays", spec := "atomPlays", inPlace := ["internal/bytealg.IndexByteString", "internal/bytealg.IndexString", "internal/abi.NoEscape", "math.Float64frombits", "math.Float64bits"], unfollowed := true, recurses := true, named := ["unicode/utf8.first", "unicode/utf8.acceptRanges", "godown/hash.first", "godown/hash.keys", "internal/bytealg.MaxLen"], apart := false, laid := [("godown/hash.first", laid_godown_hash_first), ("godown/hash.keys", laid_godown_hash_keys), ("unicode/utf8.acceptRanges", laid_unicode_utf8_acceptRanges), ("unicode/utf8.first", laid_unicode_utf8_first)] }
def AtomPlaysSaid : Prop := atomPlaysRow.holds Tryz.pinned (OpenSpec.ofChange atomPlaysSpec)

/-- ITS FALSE NEIGHBOUR: 'it returns false'. Refute it at one input. -/
def atomPlaysWrong : ChangeSpec := { name := "atomPlays", fn := fun _ => fun
  | [d] => { results := [.lit (.bool false)], args := [d] }
  | _ => none }
def AtomPlaysWrongFalsely : Prop := atomPlaysRow.holds Tryz.pinned (OpenSpec.ofChange atomPlaysWrong)

/-- 'godownlaw12.AtomTwice': WHATEVER THE INPUT: true; the input reads as it did. -/
def atomTwiceSpec : ChangeSpec := { name := "atomTwice", fn := fun _ => fun
  | [d1, d2] => { results := [.lit (.bool true)], args := [d1, d2] }
  | _ => none }
def atomTwiceRow : OpenClaim := { program := "ytlljknmojafkoaagreatdoor", sum := "4c2df26db7ed121350b73ab81355ec5bbb0e704498800dd4be917365d21d3360", func := "godown/godownlaw12.AtomTwice", spec := "atomTwice", inPlace := ["internal/bytealg.IndexByteString", "internal/bytealg.IndexString", "internal/abi.NoEscape", "math.Float64frombits", "math.Float64bits"], unfollowed := true, recurses := true, named := ["unicode/utf8.first", "unicode/utf8.acceptRanges", "godown/hash.first", "godown/hash.keys", "internal/bytealg.MaxLen"], apart := false, laid := [("godown/hash.first", laid_godown_hash_first), ("godown/hash.keys", laid_godown_hash_keys), ("unicode/utf8.acceptRanges", laid_unicode_utf8_acceptRanges), ("unicode/utf8.first", laid_unicode_utf8_first)] }
def AtomTwiceSaid : Prop := atomTwiceRow.holds Tryz.pinned (OpenSpec.ofChange atomTwiceSpec)

/-- ITS FALSE NEIGHBOUR: 'it returns false'. Refute it at one input. -/
def atomTwiceWrong : ChangeSpec := { name := "atomTwice", fn := fun _ => fun
  | [d1, d2] => { results := [.lit (.bool false)], args := [d1, d2] }
  | _ => none }
def AtomTwiceWrongFalsely : Prop := atomTwiceRow.holds Tryz.pinned (OpenSpec.ofChange atomTwiceWrong)

/-- 'godownlaw12.AtomOthers': WHATEVER THE INPUT: true; the input reads as it did. -/
def atomOthersSpec : ChangeSpec := { name := "atomOthers", fn := fun _ => fun
  | [d1, d2] => { results := [.lit (.bool true)], args := [d1, d2] }
  | _ => none }
def atomOthersRow : OpenClaim := { program := "ytlljknmojafkoaagreatdoor", sum := "4c2df26db7ed121350b73ab81355ec5bbb0e704498800dd4be917365d21d3360", func := "godown/godownlaw12.AtomOthers", spec := "atomOthers", inPlace := ["internal/bytealg.IndexByteString", "internal/bytealg.IndexString", "internal/abi.NoEscape", "math.Float64frombits", "math.Float64bits"], unfollowed := true, recurses := true, named := ["unicode/utf8.first", "unicode/utf8.acceptRanges", "godown/hash.first", "godown/hash.keys", "internal/bytealg.MaxLen"], apart := false, laid := [("godown/hash.first", laid_godown_hash_first), ("godown/hash.keys", laid_godown_hash_keys), ("unicode/utf8.acceptRanges", laid_unicode_utf8_acceptRanges), ("unicode/utf8.first", laid_unicode_utf8_first)] }
def AtomOthersSaid : Prop := atomOthersRow.holds Tryz.pinned (OpenSpec.ofChange atomOthersSpec)

/-- ITS FALSE NEIGHBOUR: 'it returns false'. Refute it at one input. -/
def atomOthersWrong : ChangeSpec := { name := "atomOthers", fn := fun _ => fun
  | [d1, d2] => { results := [.lit (.bool false)], args := [d1, d2] }
  | _ => none }
def AtomOthersWrongFalsely : Prop := atomOthersRow.holds Tryz.pinned (OpenSpec.ofChange atomOthersWrong)

/-- 'godownlaw12.AtomReads': WHATEVER THE INPUT: true; the input reads as it did. -/
def atomReadsSpec : ChangeSpec := { name := "atomReads", fn := fun _ => fun
  | [d1, d2] => { results := [.lit (.bool true)], args := [d1, d2] }
  | _ => none }
def atomReadsRow : OpenClaim := { program := "ytlljknmojafkoaagreatdoor", sum := "4c2df26db7ed121350b73ab81355ec5bbb0e704498800dd4be917365d21d3360", func := "godown/godownlaw12.AtomReads", spec := "atomReads", inPlace := ["internal/bytealg.IndexByteString", "internal/bytealg.IndexString", "internal/abi.NoEscape", "math.Float64frombits", "math.Float64bits"], unfollowed := true, recurses := true, named := ["unicode/utf8.first", "unicode/utf8.acceptRanges", "godown/hash.first", "godown/hash.keys", "internal/bytealg.MaxLen"], apart := false, laid := [("godown/hash.first", laid_godown_hash_first), ("godown/hash.keys", laid_godown_hash_keys), ("unicode/utf8.acceptRanges", laid_unicode_utf8_acceptRanges), ("unicode/utf8.first", laid_unicode_utf8_first)] }
def AtomReadsSaid : Prop := atomReadsRow.holds Tryz.pinned (OpenSpec.ofChange atomReadsSpec)

/-- ITS FALSE NEIGHBOUR: 'it returns false'. Refute it at one input. -/
def atomReadsWrong : ChangeSpec := { name := "atomReads", fn := fun _ => fun
  | [d1, d2] => { results := [.lit (.bool false)], args := [d1, d2] }
  | _ => none }
def AtomReadsWrongFalsely : Prop := atomReadsRow.holds Tryz.pinned (OpenSpec.ofChange atomReadsWrong)

/- THE SECOND FORM. 'bulk': how many values and letters a reading holds, each counted each time it is reached (what is shared counts as often as it is met; a slice's spare places count too). A statement '..UptoSaid' is the law's where the arguments, and the package variables that the reading takes, are together of bulk at most 1048576: NARROWER than '..Said'. Prove '..Said' where nothing that the law and all that it calls make is longer than what came in: it says more and counts as full. Else prove '..UptoSaid'. A law counts once. -/
mutual
def uptoBulk {H : Type} : DataW H → Nat
  | .lit (.string bytes) => bytes.length + 1
  | .lit _ => 1
  | .nil => 1
  | .ptr d => uptoBulk d + 1
  | .slice elems spare => uptoBulkAll elems + uptoBulkAll spare + 1
  | .agg parts => uptoBulkAll parts + 1
  | .iface _ d => uptoBulk d + 1
  | .map entries => uptoBulkEntries entries + 1
  | .held _ => 1
def uptoBulkAll {H : Type} : List (DataW H) → Nat
  | [] => 0
  | d :: r => uptoBulk d + uptoBulkAll r
def uptoBulkEntries {H : Type} : List (Lit × DataW H) → Nat
  | [] => 0
  | x :: r => uptoBulkEntry x + uptoBulkEntries r
def uptoBulkEntry {H : Type} : Lit × DataW H → Nat
  | (.string bytes, d) => bytes.length + uptoBulk d + 1
  | (_, d) => uptoBulk d + 1
 end
def uptoSmall : (H : Type) → List (DataW H) → Bool := fun _ ds => decide (uptoBulkAll ds ≤ 1048576)
def OpenSpec.upto (s : _root_.Go.ChangeSpec) : _root_.Go.OpenSpec := { _root_.Go.OpenSpec.ofChange s with cond := some uptoSmall }

/-- 'godownlaw10.DbFull', WHERE WHAT IT READS IS OF BULK AT MOST 1048576: true; the input reads as it did. -/
def dbFullUptoRow : OpenClaim := { program := "ytlljknmojafkoaagreatdoor", sum := "4c2df26db7ed121350b73ab81355ec5bbb0e704498800dd4be917365d21d3360", func := "godown/godownlaw10.DbFull", spec := "dbFull", inPlace := ["internal/bytealg.IndexByteString", "internal/bytealg.IndexString", "internal/abi.NoEscape"], unfollowed := true, recurses := true, named := ["unicode/utf8.first", "unicode/utf8.acceptRanges", "godown/hash.first", "godown/hash.keys", "internal/bytealg.MaxLen"], apart := false, laid := [("godown/hash.first", laid_godown_hash_first), ("godown/hash.keys", laid_godown_hash_keys), ("unicode/utf8.acceptRanges", laid_unicode_utf8_acceptRanges), ("unicode/utf8.first", laid_unicode_utf8_first)], narrowed := true }
def DbFullUptoSaid : Prop := dbFullUptoRow.holds Tryz.pinned (OpenSpec.upto dbFullSpec)

/-- 'godownlaw12.AtomRows', WHERE WHAT IT READS IS OF BULK AT MOST 1048576: true; the input reads as it did. -/
def atomRowsUptoRow : OpenClaim := { program := "ytlljknmojafkoaagreatdoor", sum := "4c2df26db7ed121350b73ab81355ec5bbb0e704498800dd4be917365d21d3360", func := "godown/godownlaw12.AtomRows", spec := "atomRows", inPlace := ["internal/bytealg.IndexByteString", "internal/bytealg.IndexString", "internal/abi.NoEscape", "math.Float64frombits", "math.Float64bits"], unfollowed := true, recurses := true, named := ["unicode/utf8.first", "unicode/utf8.acceptRanges", "godown/hash.first", "godown/hash.keys", "internal/bytealg.MaxLen"], apart := false, laid := [("godown/hash.first", laid_godown_hash_first), ("godown/hash.keys", laid_godown_hash_keys), ("unicode/utf8.acceptRanges", laid_unicode_utf8_acceptRanges), ("unicode/utf8.first", laid_unicode_utf8_first)], narrowed := true }
def AtomRowsUptoSaid : Prop := atomRowsUptoRow.holds Tryz.pinned (OpenSpec.upto atomRowsSpec)

/-- 'godownlaw12.AtomOrder', WHERE WHAT IT READS IS OF BULK AT MOST 1048576: true; the input reads as it did. -/
def atomOrderUptoRow : OpenClaim := { program := "ytlljknmojafkoaagreatdoor", sum := "4c2df26db7ed121350b73ab81355ec5bbb0e704498800dd4be917365d21d3360", func := "godown/godownlaw12.AtomOrder", spec := "atomOrder", inPlace := ["internal/bytealg.IndexByteString", "internal/bytealg.IndexString", "internal/abi.NoEscape", "math.Float64frombits", "math.Float64bits"], unfollowed := true, recurses := true, named := ["unicode/utf8.first", "unicode/utf8.acceptRanges", "godown/hash.first", "godown/hash.keys", "internal/bytealg.MaxLen"], apart := false, laid := [("godown/hash.first", laid_godown_hash_first), ("godown/hash.keys", laid_godown_hash_keys), ("unicode/utf8.acceptRanges", laid_unicode_utf8_acceptRanges), ("unicode/utf8.first", laid_unicode_utf8_first)], narrowed := true }
def AtomOrderUptoSaid : Prop := atomOrderUptoRow.holds Tryz.pinned (OpenSpec.upto atomOrderSpec)

/-- 'godownlaw12.AtomFinds', WHERE WHAT IT READS IS OF BULK AT MOST 1048576: true; the input reads as it did. -/
def atomFindsUptoRow : OpenClaim := { program := "ytlljknmojafkoaagreatdoor", sum := "4c2df26db7ed121350b73ab81355ec5bbb0e704498800dd4be917365d21d3360", func := "godown/godownlaw12.AtomFinds", spec := "atomFinds", inPlace := ["internal/bytealg.IndexByteString", "internal/bytealg.IndexString", "internal/abi.NoEscape", "math.Float64frombits", "math.Float64bits"], unfollowed := true, recurses := true, named := ["unicode/utf8.first", "unicode/utf8.acceptRanges", "godown/hash.first", "godown/hash.keys", "internal/bytealg.MaxLen"], apart := false, laid := [("godown/hash.first", laid_godown_hash_first), ("godown/hash.keys", laid_godown_hash_keys), ("unicode/utf8.acceptRanges", laid_unicode_utf8_acceptRanges), ("unicode/utf8.first", laid_unicode_utf8_first)], narrowed := true }
def AtomFindsUptoSaid : Prop := atomFindsUptoRow.holds Tryz.pinned (OpenSpec.upto atomFindsSpec)

/-- 'godownlaw12.AtomSwept', WHERE WHAT IT READS IS OF BULK AT MOST 1048576: true; the input reads as it did. -/
def atomSweptUptoRow : OpenClaim := { program := "ytlljknmojafkoaagreatdoor", sum := "4c2df26db7ed121350b73ab81355ec5bbb0e704498800dd4be917365d21d3360", func := "godown/godownlaw12.AtomSwept", spec := "atomSwept", inPlace := ["internal/bytealg.IndexByteString", "internal/bytealg.IndexString", "internal/abi.NoEscape", "math.Float64frombits", "math.Float64bits"], unfollowed := true, recurses := true, named := ["unicode/utf8.first", "unicode/utf8.acceptRanges", "godown/hash.first", "godown/hash.keys", "internal/bytealg.MaxLen"], apart := false, laid := [("godown/hash.first", laid_godown_hash_first), ("godown/hash.keys", laid_godown_hash_keys), ("unicode/utf8.acceptRanges", laid_unicode_utf8_acceptRanges), ("unicode/utf8.first", laid_unicode_utf8_first)], narrowed := true }
def AtomSweptUptoSaid : Prop := atomSweptUptoRow.holds Tryz.pinned (OpenSpec.upto atomSweptSpec)

/-- 'godownlaw12.AtomPlays', WHERE WHAT IT READS IS OF BULK AT MOST 1048576: true; the input reads as it did. -/
def atomPlaysUptoRow : OpenClaim := { program := "ytlljknmojafkoaagreatdoor", sum := "4c2df26db7ed121350b73ab81355ec5bbb0e704498800dd4be917365d21d3360", func := "godown/godownlaw12.AtomPlays", spec := "atomPlays", inPlace := ["internal/bytealg.IndexByteString", "internal/bytealg.IndexString", "internal/abi.NoEscape", "math.Float64frombits", "math.Float64bits"], unfollowed := true, recurses := true, named := ["unicode/utf8.first", "unicode/utf8.acceptRanges", "godown/hash.first", "godown/hash.keys", "internal/bytealg.MaxLen"], apart := false, laid := [("godown/hash.first", laid_godown_hash_first), ("godown/hash.keys", laid_godown_hash_keys), ("unicode/utf8.acceptRanges", laid_unicode_utf8_acceptRanges), ("unicode/utf8.first", laid_unicode_utf8_first)], narrowed := true }
def AtomPlaysUptoSaid : Prop := atomPlaysUptoRow.holds Tryz.pinned (OpenSpec.upto atomPlaysSpec)

/-- 'godownlaw12.AtomTwice', WHERE WHAT IT READS IS OF BULK AT MOST 1048576: true; the input reads as it did. -/
def atomTwiceUptoRow : OpenClaim := { program := "ytlljknmojafkoaagreatdoor", sum := "4c2df26db7ed121350b73ab81355ec5bbb0e704498800dd4be917365d21d3360", func := "godown/godownlaw12.AtomTwice", spec := "atomTwice", inPlace := ["internal/bytealg.IndexByteString", "internal/bytealg.IndexString", "internal/abi.NoEscape", "math.Float64frombits", "math.Float64bits"], unfollowed := true, recurses := true, named := ["unicode/utf8.first", "unicode/utf8.acceptRanges", "godown/hash.first", "godown/hash.keys", "internal/bytealg.MaxLen"], apart := false, laid := [("godown/hash.first", laid_godown_hash_first), ("godown/hash.keys", laid_godown_hash_keys), ("unicode/utf8.acceptRanges", laid_unicode_utf8_acceptRanges), ("unicode/utf8.first", laid_unicode_utf8_first)], narrowed := true }
def AtomTwiceUptoSaid : Prop := atomTwiceUptoRow.holds Tryz.pinned (OpenSpec.upto atomTwiceSpec)

/-- 'godownlaw12.AtomOthers', WHERE WHAT IT READS IS OF BULK AT MOST 1048576: true; the input reads as it did. -/
def atomOthersUptoRow : OpenClaim := { program := "ytlljknmojafkoaagreatdoor", sum := "4c2df26db7ed121350b73ab81355ec5bbb0e704498800dd4be917365d21d3360", func := "godown/godownlaw12.AtomOthers", spec := "atomOthers", inPlace := ["internal/bytealg.IndexByteString", "internal/bytealg.IndexString", "internal/abi.NoEscape", "math.Float64frombits", "math.Float64bits"], unfollowed := true, recurses := true, named := ["unicode/utf8.first", "unicode/utf8.acceptRanges", "godown/hash.first", "godown/hash.keys", "internal/bytealg.MaxLen"], apart := false, laid := [("godown/hash.first", laid_godown_hash_first), ("godown/hash.keys", laid_godown_hash_keys), ("unicode/utf8.acceptRanges", laid_unicode_utf8_acceptRanges), ("unicode/utf8.first", laid_unicode_utf8_first)], narrowed := true }
def AtomOthersUptoSaid : Prop := atomOthersUptoRow.holds Tryz.pinned (OpenSpec.upto atomOthersSpec)

/-- 'godownlaw12.AtomReads', WHERE WHAT IT READS IS OF BULK AT MOST 1048576: true; the input reads as it did. -/
def atomReadsUptoRow : OpenClaim := { program := "ytlljknmojafkoaagreatdoor", sum := "4c2df26db7ed121350b73ab81355ec5bbb0e704498800dd4be917365d21d3360", func := "godown/godownlaw12.AtomReads", spec := "atomReads", inPlace := ["internal/bytealg.IndexByteString", "internal/bytealg.IndexString", "internal/abi.NoEscape", "math.Float64frombits", "math.Float64bits"], unfollowed := true, recurses := true, named := ["unicode/utf8.first", "unicode/utf8.acceptRanges", "godown/hash.first", "godown/hash.keys", "internal/bytealg.MaxLen"], apart := false, laid := [("godown/hash.first", laid_godown_hash_first), ("godown/hash.keys", laid_godown_hash_keys), ("unicode/utf8.acceptRanges", laid_unicode_utf8_acceptRanges), ("unicode/utf8.first", laid_unicode_utf8_first)], narrowed := true }
def AtomReadsUptoSaid : Prop := atomReadsUptoRow.holds Tryz.pinned (OpenSpec.upto atomReadsSpec)

end Rows
end Go.Proofs.YtlljknmojafkoaaGreatDoor
