/-
  Lemmas of the claim, part 3: TlAr Ty Ha Hb Hc Hd He Hf Hg Hh Ht Hs Hi Na Nb Nc Nd Ne Nf Ng Nh Ni.
-/
import Derived.Test.YtlljknmojafkoaaGreatDoorMlb
import Derived.SliceStrings
import Derived.Deep.Slices
import Derived.Test.YtlljknmojafkoaaGreatDoorProg
import Derived.Laws.Externs
set_option linter.unusedVariables false
set_option linter.unusedSimpArgs false
namespace Go.Proofs.YtlljknmojafkoaaGreatDoor.TL
open Go.RowKit Go.ChangeShapes Go.WideShapes Go.ChangeAt Go.Deep
/-- A shape. -/
inductive Sh where
  | u8 | u16 | u64 | int | bool | f64 | str
  | sl (e : Sh)
  | st (fs : List Sh)
def Sh.isSt : Sh → Bool
  | .st _ => true
  | _ => false
def Sh.sz : Sh → Nat
  | .st fs => fs.length
  | _ => 1
mutual
/-- A datum of a shape. -/
def Fit : Sh → D → Prop
  | .u8, d => ∃ b : BitVec 8, d = .lit (w8 b)
  | .u16, d => ∃ b : BitVec 16, d = .lit (w16 b)
  | .u64, d => ∃ b : BitVec 64, d = .lit (w64 b)
  | .int, d => ∃ n : Int, -9223372036854775808 ≤ n ∧ n ≤ 9223372036854775807 ∧ d = .lit (.int .i64 n)
  | .bool, d => ∃ b, d = .lit (.bool b)
  | .f64, d => ∃ b : BitVec 64, d = .lit (.float .f64 b.toNat)
  | .str, d => ∃ s : Bs, s.length ≤ LIM ∧ d = .lit (.string (TL.st s))
  | .sl e, d => ∃ l : List D, l.length ≤ LIM ∧ d = .sl e.sz l ∧ ∀ x ∈ l, Fit e x
  | .st fs, d => ∃ l, d = .agg l ∧ FitL fs l
def FitL : List Sh → List D → Prop
  | [], [] => True
  | f :: fs, d :: l => Fit f d ∧ FitL fs l
  | _, _ => False
end
section
variable {H : Type} {enc : TypeId × Value → H} {P : Program} {W : World} {base : Nat} {spare : Nat → Bool} {held : Bool}
/-- Cells that read as a datum of a shape. -/
def Good (W : World) (sh : Sh) (cs : List Value) : Prop :=
  (sh.isSt = false → ∃ v d, cs = [v] ∧ v.oneCell' = true ∧ d.isAgg = false ∧ Fit sh d ∧ RdD (cx0 W).A W d (.val v)) ∧
  (∀ fs, sh = .st fs → ∃ l, FitL fs l ∧ l.length = fs.length ∧ l.length = cs.length ∧ ∀ (j : Nat) d v, l[j]? = some d → cs[j]? = some v → d.isAgg = false ∧ v.oneCell' = true ∧ RdD (cx0 W).A W d (.val v))
theorem Good.one {sh : Sh} {v : Value} {d : D} (hs : sh.isSt = false) (hv : v.oneCell' = true) (ha : d.isAgg = false) (hf : Fit sh d) (hr : RdD (cx0 W).A W d (.val v)) : Good W sh [v] :=
  ⟨fun _ => ⟨v, d, rfl, hv, ha, hf, hr⟩, fun fs e => by subst e; cases hs⟩
/-- .. that stand at a place. -/
theorem Good.at {sh : Sh} {cs : List Value} {a : Addr} (h : Good W sh cs) (hsz : 1 ≤ sh.sz) (hcl : cs.length = sh.sz) (hcell : ∀ i, i < sh.sz → W.cell? (a.add i) = cs[i]?) : a = ⟨a.block, a.off, none⟩ ∧ ∃ d, Fit sh d ∧ RdD (cx0 W).A W d (.at_ a.block a.off sh.sz) := by
  have hsp : a = ⟨a.block, a.off, none⟩ := by
    have h0 := hcell 0 (by omega)
    rw [List.getElem?_eq_getElem (by omega)] at h0
    have e : a.add 0 = a := by simp [Addr.add]
    rw [e] at h0
    exact spot_none h0
  refine ⟨hsp, ?_⟩
  have hc2 : ∀ i, i < sh.sz → W.cell? ⟨a.block, a.off + i, none⟩ = cs[i]? := fun i hi => by
    rw [← hcell i hi]; rw [hsp]; rw [addr_add]
  cases hs : sh.isSt with
  | false =>
    obtain ⟨v, d, rfl, hv, ha, hf, hr⟩ := h.1 hs
    have hz : sh.sz = 1 := by cases sh <;> first | rfl | cases hs
    have h0 := hc2 0 (by omega)
    rw [Nat.add_zero] at h0
    refine ⟨d, hf, ?_⟩
    rw [hz]
    exact .one _ _ _ v ha (cx0_A h0) h0 hv hr
  | true =>
    cases sh with
    | st fs =>
      obtain ⟨l, hl, hlf, hlen, hall⟩ := h.2 fs rfl
      refine ⟨.agg l, ⟨l, rfl, hl⟩, ?_⟩
      have hz : Sh.sz (.st fs) = l.length := by rw [Sh.sz, hlf]
      rw [hz]
      rw [hz] at hcl hc2
      refine .aggAt _ _ _ (fun j d hj => ?_) (fun j d hj => ?_)
      · have hjl := (List.getElem?_eq_some_iff.1 hj).1
        exact (hall j d (cs[j]'(by omega)) hj (List.getElem?_eq_getElem (by omega))).1
      · have hjl := (List.getElem?_eq_some_iff.1 hj).1
        have hcj : cs[j]? = some (cs[j]'(by omega)) := List.getElem?_eq_getElem (by omega)
        obtain ⟨h1, h2, h3⟩ := hall j d _ hj hcj
        have h0 := (hc2 j hjl).trans hcj
        exact .one _ _ _ _ h1 (cx0_A h0) h0 h2 h3
    | _ => cases hs
end
end Go.Proofs.YtlljknmojafkoaaGreatDoor.TL
namespace Go.Proofs.YtlljknmojafkoaaGreatDoor
open Go.RowKit TL
theorem ti3 : tiOf Tryz.prog 3 = some ⟨.int .i64, 1, 8, .int (.i64) 0⟩ := by kernel_rfl
theorem ti4 : tiOf Tryz.prog 4 = some ⟨.bool, 1, 1, .bool false⟩ := by kernel_rfl
theorem un4 : Program.underlying Tryz.prog 4 = some .bool := by kernel_rfl
theorem ti5 : tiOf Tryz.prog 5 = some ⟨.int .u8, 1, 1, .int (.u8) 0⟩ := by kernel_rfl
theorem ti9 : tiOf Tryz.prog 9 = some ⟨.string, 1, 16, .string (⟨#[]⟩)⟩ := by kernel_rfl
theorem ti21 : tiOf Tryz.prog 21 = some ⟨.int .i32, 1, 4, .int (.i32) 0⟩ := by kernel_rfl
theorem ti23 : tiOf Tryz.prog 23 = some ⟨.pointer 94, 1, 8, .pointer none⟩ := by kernel_rfl
theorem pt23 : ptrTy Tryz.prog 23 = some false := by kernel_rfl
theorem ti25 : tiOf Tryz.prog 25 = some ⟨.slice 158, 1, 24, .slice none 0 0⟩ := by kernel_rfl
def fs27 : Array Field := #[⟨"H", 25, 0, false, "", "", 0⟩, ⟨"K", 25, 1, false, "", "", 24⟩]
theorem fs27_0 : fs27[0]? = some ⟨"H", 25, 0, false, "", "", 0⟩ := rfl
theorem fs27_1 : fs27[1]? = some ⟨"K", 25, 1, false, "", "", 24⟩ := rfl
theorem pl27 : placesOf Tryz.prog fs27.toList = some [(0, 1), (1, 1)] := by kernel_rfl
def zero27 : Value := .agg #[.slice none 0 0, .slice none 0 0]
theorem zero27_c : ofConst zero27 = .agg [.sl .full 0 [], .sl .full 0 []] := rfl
theorem ti27 : tiOf Tryz.prog 27 = some ⟨.struct fs27, 2, 48, zero27⟩ := by kernel_rfl
theorem ti28 : tiOf Tryz.prog 28 = some ⟨.slice 40, 1, 24, .slice none 0 0⟩ := by kernel_rfl
theorem ti29 : tiOf Tryz.prog 29 = some ⟨.slice 9, 1, 24, .slice none 0 0⟩ := by kernel_rfl
theorem ti30 : tiOf Tryz.prog 30 = some ⟨.int .u64, 1, 8, .int (.u64) 0⟩ := by kernel_rfl
theorem ti31 : tiOf Tryz.prog 31 = some ⟨.slice 224, 1, 24, .slice none 0 0⟩ := by kernel_rfl
def fs33 : Array Field := #[⟨"T", 27, 0, false, "", "", 0⟩, ⟨"L", 28, 2, false, "", "", 48⟩, ⟨"Roots", 29, 3, false, "", "", 72⟩, ⟨"Version", 30, 4, false, "", "", 96⟩, ⟨"Touched", 31, 5, false, "", "", 104⟩]
theorem fs33_0 : fs33[0]? = some ⟨"T", 27, 0, false, "", "", 0⟩ := rfl
theorem fs33_1 : fs33[1]? = some ⟨"L", 28, 2, false, "", "", 48⟩ := rfl
theorem fs33_2 : fs33[2]? = some ⟨"Roots", 29, 3, false, "", "", 72⟩ := rfl
theorem fs33_3 : fs33[3]? = some ⟨"Version", 30, 4, false, "", "", 96⟩ := rfl
theorem fs33_4 : fs33[4]? = some ⟨"Touched", 31, 5, false, "", "", 104⟩ := rfl
theorem pl33 : placesOf Tryz.prog fs33.toList = some [(0, 2), (2, 1), (3, 1), (4, 1), (5, 1)] := by kernel_rfl
def zero33 : Value := .agg   #[.slice none 0 0, .slice none 0 0, .slice none 0 0, .slice none 0 0,     .int (.u64) 0, .slice none 0 0]
theorem zero33_c : ofConst zero33 = .agg [.sl .full 0 [], .sl .full 0 [], .sl .full 0 [], .sl .full 0 [], .lit (.int (.u64) 0), .sl .full 0 []] := rfl
theorem ti33 : tiOf Tryz.prog 33 = some ⟨.struct fs33, 6, 128, zero33⟩ := by kernel_rfl
theorem ti35 : tiOf Tryz.prog 35 = some ⟨.int .i64, 1, 8, .int (.i64) 0⟩ := by kernel_rfl
theorem ti38 : tiOf Tryz.prog 38 = some ⟨.slice 5, 1, 24, .slice none 0 0⟩ := by kernel_rfl
def fs40 : Array Field := #[⟨"Path", 9, 0, false, "", "", 0⟩, ⟨"Name", 9, 1, false, "", "", 16⟩, ⟨"Archive", 38, 2, false, "", "", 32⟩, ⟨"Refs", 29, 3, false, "", "", 56⟩]
theorem fs40_0 : fs40[0]? = some ⟨"Path", 9, 0, false, "", "", 0⟩ := rfl
theorem fs40_1 : fs40[1]? = some ⟨"Name", 9, 1, false, "", "", 16⟩ := rfl
theorem fs40_2 : fs40[2]? = some ⟨"Archive", 38, 2, false, "", "", 32⟩ := rfl
theorem fs40_3 : fs40[3]? = some ⟨"Refs", 29, 3, false, "", "", 56⟩ := rfl
theorem pl40 : placesOf Tryz.prog fs40.toList = some [(0, 1), (1, 1), (2, 1), (3, 1)] := by kernel_rfl
def zero40 : Value := .agg #[.string (⟨#[]⟩), .string (⟨#[]⟩), .slice none 0 0, .slice none 0 0]
theorem zero40_c : ofConst zero40 = .agg [.lit (.string (⟨#[]⟩)), .lit (.string (⟨#[]⟩)), .sl .full 0 [], .sl .full 0 []] := rfl
theorem ti40 : tiOf Tryz.prog 40 = some ⟨.struct fs40, 4, 80, zero40⟩ := by kernel_rfl
theorem ti46 : tiOf Tryz.prog 46 = some ⟨.slice 107, 1, 24, .slice none 0 0⟩ := by kernel_rfl
theorem ti47 : tiOf Tryz.prog 47 = some ⟨.slice 51, 1, 24, .slice none 0 0⟩ := by kernel_rfl
def fs49 : Array Field := #[⟨"Trees", 46, 0, false, "", "", 0⟩, ⟨"Grow", 47, 1, false, "", "", 24⟩, ⟨"Asks", 47, 2, false, "", "", 48⟩]
theorem fs49_0 : fs49[0]? = some ⟨"Trees", 46, 0, false, "", "", 0⟩ := rfl
theorem fs49_1 : fs49[1]? = some ⟨"Grow", 47, 1, false, "", "", 24⟩ := rfl
theorem fs49_2 : fs49[2]? = some ⟨"Asks", 47, 2, false, "", "", 48⟩ := rfl
theorem pl49 : placesOf Tryz.prog fs49.toList = some [(0, 1), (1, 1), (2, 1)] := by kernel_rfl
def zero49 : Value := .agg #[.slice none 0 0, .slice none 0 0, .slice none 0 0]
theorem zero49_c : ofConst zero49 = .agg [.sl .full 0 [], .sl .full 0 [], .sl .full 0 []] := rfl
theorem ti49 : tiOf Tryz.prog 49 = some ⟨.struct fs49, 3, 72, zero49⟩ := by kernel_rfl
def fs51 : Array Field := #[⟨"Kind", 5, 0, false, "", "", 0⟩, ⟨"Name", 5, 1, false, "", "", 1⟩, ⟨"File", 5, 2, false, "", "", 2⟩, ⟨"Path", 5, 3, false, "", "", 3⟩, ⟨"More", 5, 4, false, "", "", 4⟩]
theorem fs51_0 : fs51[0]? = some ⟨"Kind", 5, 0, false, "", "", 0⟩ := rfl
theorem fs51_1 : fs51[1]? = some ⟨"Name", 5, 1, false, "", "", 1⟩ := rfl
theorem fs51_2 : fs51[2]? = some ⟨"File", 5, 2, false, "", "", 2⟩ := rfl
theorem fs51_3 : fs51[3]? = some ⟨"Path", 5, 3, false, "", "", 3⟩ := rfl
theorem fs51_4 : fs51[4]? = some ⟨"More", 5, 4, false, "", "", 4⟩ := rfl
theorem pl51 : placesOf Tryz.prog fs51.toList = some [(0, 1), (1, 1), (2, 1), (3, 1), (4, 1)] := by kernel_rfl
def zero51 : Value := .agg   #[.int (.u8) 0, .int (.u8) 0, .int (.u8) 0,     .int (.u8) 0, .int (.u8) 0]
theorem zero51_c : ofConst zero51 = .agg [.lit (.int (.u8) 0), .lit (.int (.u8) 0), .lit (.int (.u8) 0), .lit (.int (.u8) 0), .lit (.int (.u8) 0)] := rfl
theorem ti51 : tiOf Tryz.prog 51 = some ⟨.struct fs51, 5, 5, zero51⟩ := by kernel_rfl
theorem ti53 : tiOf Tryz.prog 53 = some ⟨.slice 38, 1, 24, .slice none 0 0⟩ := by kernel_rfl
def fs55 : Array Field := #[⟨"T", 27, 0, false, "", "", 0⟩, ⟨"Archives", 53, 2, false, "", "", 48⟩, ⟨"Names", 29, 3, false, "", "", 72⟩, ⟨"Paths", 29, 4, false, "", "", 96⟩]
theorem fs55_0 : fs55[0]? = some ⟨"T", 27, 0, false, "", "", 0⟩ := rfl
theorem fs55_1 : fs55[1]? = some ⟨"Archives", 53, 2, false, "", "", 48⟩ := rfl
theorem fs55_2 : fs55[2]? = some ⟨"Names", 29, 3, false, "", "", 72⟩ := rfl
theorem fs55_3 : fs55[3]? = some ⟨"Paths", 29, 4, false, "", "", 96⟩ := rfl
theorem pl55 : placesOf Tryz.prog fs55.toList = some [(0, 2), (2, 1), (3, 1), (4, 1)] := by kernel_rfl
def zero55 : Value := .agg   #[.slice none 0 0, .slice none 0 0, .slice none 0 0, .slice none 0 0,     .slice none 0 0]
theorem zero55_c : ofConst zero55 = .agg [.sl .full 0 [], .sl .full 0 [], .sl .full 0 [], .sl .full 0 [], .sl .full 0 []] := rfl
theorem ti55 : tiOf Tryz.prog 55 = some ⟨.struct fs55, 5, 120, zero55⟩ := by kernel_rfl
theorem ti57 : tiOf Tryz.prog 57 = some ⟨.slice 77, 1, 24, .slice none 0 0⟩ := by kernel_rfl
def fs59 : Array Field := #[⟨"Kind", 5, 0, false, "", "", 0⟩, ⟨"Name", 9, 1, false, "", "", 8⟩, ⟨"Path", 9, 2, false, "", "", 24⟩, ⟨"Archive", 38, 3, false, "", "", 40⟩, ⟨"Refs", 29, 4, false, "", "", 64⟩, ⟨"Outs", 57, 5, false, "", "", 88⟩]
theorem fs59_0 : fs59[0]? = some ⟨"Kind", 5, 0, false, "", "", 0⟩ := rfl
theorem fs59_1 : fs59[1]? = some ⟨"Name", 9, 1, false, "", "", 8⟩ := rfl
theorem fs59_2 : fs59[2]? = some ⟨"Path", 9, 2, false, "", "", 24⟩ := rfl
theorem fs59_3 : fs59[3]? = some ⟨"Archive", 38, 3, false, "", "", 40⟩ := rfl
theorem fs59_4 : fs59[4]? = some ⟨"Refs", 29, 4, false, "", "", 64⟩ := rfl
theorem fs59_5 : fs59[5]? = some ⟨"Outs", 57, 5, false, "", "", 88⟩ := rfl
theorem pl59 : placesOf Tryz.prog fs59.toList = some [(0, 1), (1, 1), (2, 1), (3, 1), (4, 1), (5, 1)] := by kernel_rfl
def zero59 : Value := .agg   #[.int (.u8) 0, .string (⟨#[]⟩), .string (⟨#[]⟩), .slice none 0 0,     .slice none 0 0, .slice none 0 0]
theorem zero59_c : ofConst zero59 = .agg [.lit (.int (.u8) 0), .lit (.string (⟨#[]⟩)), .lit (.string (⟨#[]⟩)), .sl .full 0 [], .sl .full 0 [], .sl .full 0 []] := rfl
theorem ti59 : tiOf Tryz.prog 59 = some ⟨.struct fs59, 6, 112, zero59⟩ := by kernel_rfl
theorem ti61 : tiOf Tryz.prog 61 = some ⟨.float .f64, 1, 8, .float (.f64) 0⟩ := by kernel_rfl
def fs63 : Array Field := #[⟨"E", 35, 0, false, "", "", 0⟩, ⟨"Is", 4, 1, false, "", "", 8⟩, ⟨"N", 3, 2, false, "", "", 16⟩, ⟨"Stamp", 61, 3, false, "", "", 24⟩, ⟨"Sum", 38, 4, false, "", "", 32⟩, ⟨"Paths", 29, 5, false, "", "", 56⟩]
theorem fs63_0 : fs63[0]? = some ⟨"E", 35, 0, false, "", "", 0⟩ := rfl
theorem fs63_1 : fs63[1]? = some ⟨"Is", 4, 1, false, "", "", 8⟩ := rfl
theorem fs63_2 : fs63[2]? = some ⟨"N", 3, 2, false, "", "", 16⟩ := rfl
theorem fs63_3 : fs63[3]? = some ⟨"Stamp", 61, 3, false, "", "", 24⟩ := rfl
theorem fs63_4 : fs63[4]? = some ⟨"Sum", 38, 4, false, "", "", 32⟩ := rfl
theorem fs63_5 : fs63[5]? = some ⟨"Paths", 29, 5, false, "", "", 56⟩ := rfl
theorem pl63 : placesOf Tryz.prog fs63.toList = some [(0, 1), (1, 1), (2, 1), (3, 1), (4, 1), (5, 1)] := by kernel_rfl
def zero63 : Value := .agg   #[.int (.i64) 0, .bool false, .int (.i64) 0,     .float (.f64) 0, .slice none 0 0, .slice none 0 0]
theorem zero63_c : ofConst zero63 = .agg [.lit (.int (.i64) 0), .lit (.bool false), .lit (.int (.i64) 0), .lit (.float (.f64) 0), .sl .full 0 [], .sl .full 0 []] := rfl
theorem ti63 : tiOf Tryz.prog 63 = some ⟨.struct fs63, 6, 80, zero63⟩ := by kernel_rfl
theorem ti75 : tiOf Tryz.prog 75 = some ⟨.slice 3, 1, 24, .slice none 0 0⟩ := by kernel_rfl
def fs77 : Array Field := #[⟨"Name", 9, 0, false, "", "", 0⟩, ⟨"Archive", 38, 1, false, "", "", 16⟩, ⟨"Refs", 29, 2, false, "", "", 40⟩, ⟨"Needs", 75, 3, false, "", "", 64⟩]
theorem fs77_0 : fs77[0]? = some ⟨"Name", 9, 0, false, "", "", 0⟩ := rfl
theorem fs77_1 : fs77[1]? = some ⟨"Archive", 38, 1, false, "", "", 16⟩ := rfl
theorem fs77_2 : fs77[2]? = some ⟨"Refs", 29, 2, false, "", "", 40⟩ := rfl
theorem fs77_3 : fs77[3]? = some ⟨"Needs", 75, 3, false, "", "", 64⟩ := rfl
theorem pl77 : placesOf Tryz.prog fs77.toList = some [(0, 1), (1, 1), (2, 1), (3, 1)] := by kernel_rfl
def zero77 : Value := .agg #[.string (⟨#[]⟩), .slice none 0 0, .slice none 0 0, .slice none 0 0]
theorem zero77_c : ofConst zero77 = .agg [.lit (.string (⟨#[]⟩)), .sl .full 0 [], .sl .full 0 [], .sl .full 0 []] := rfl
theorem ti77 : tiOf Tryz.prog 77 = some ⟨.struct fs77, 4, 88, zero77⟩ := by kernel_rfl
theorem ti78 : tiOf Tryz.prog 78 = some ⟨.slice 35, 1, 24, .slice none 0 0⟩ := by kernel_rfl
theorem ti88 : tiOf Tryz.prog 88 = some ⟨.pointer 152, 1, 8, .pointer none⟩ := by kernel_rfl
theorem pt88 : ptrTy Tryz.prog 88 = some false := by kernel_rfl
theorem ti90 : tiOf Tryz.prog 90 = some ⟨.map 9 91, 1, 8, .map none⟩ := by kernel_rfl
theorem pt90 : ptrTy Tryz.prog 90 = some true := by kernel_rfl
theorem ti91 : tiOf Tryz.prog 91 = some ⟨.map 9 4, 1, 8, .map none⟩ := by kernel_rfl
theorem pt91 : ptrTy Tryz.prog 91 = some true := by kernel_rfl
theorem ti92 : tiOf Tryz.prog 92 = some ⟨.map 9 30, 1, 8, .map none⟩ := by kernel_rfl
theorem pt92 : ptrTy Tryz.prog 92 = some true := by kernel_rfl
def fs94 : Array Field := #[⟨"rows", 88, 0, false, "", "godown/db", 0⟩, ⟨"back", 90, 1, false, "", "godown/db", 8⟩, ⟨"roots", 91, 2, false, "", "godown/db", 16⟩, ⟨"stamps", 92, 3, false, "", "godown/db", 24⟩, ⟨"version", 30, 4, false, "", "godown/db", 32⟩]
theorem fs94_0 : fs94[0]? = some ⟨"rows", 88, 0, false, "", "godown/db", 0⟩ := rfl
theorem fs94_1 : fs94[1]? = some ⟨"back", 90, 1, false, "", "godown/db", 8⟩ := rfl
theorem fs94_2 : fs94[2]? = some ⟨"roots", 91, 2, false, "", "godown/db", 16⟩ := rfl
theorem fs94_3 : fs94[3]? = some ⟨"stamps", 92, 3, false, "", "godown/db", 24⟩ := rfl
theorem fs94_4 : fs94[4]? = some ⟨"version", 30, 4, false, "", "godown/db", 32⟩ := rfl
theorem pl94 : placesOf Tryz.prog fs94.toList = some [(0, 1), (1, 1), (2, 1), (3, 1), (4, 1)] := by kernel_rfl
def zero94 : Value := .agg   #[.pointer none, .map none, .map none, .map none, .int (.u64) 0]
theorem zero94_c : ofConst zero94 = .agg [.lit (.pointer none), .lit (.map none), .lit (.map none), .lit (.map none), .lit (.int (.u64) 0)] := rfl
theorem ti94 : tiOf Tryz.prog 94 = some ⟨.struct fs94, 5, 40, zero94⟩ := by kernel_rfl
theorem ti107 : tiOf Tryz.prog 107 = some ⟨.slice 173, 1, 24, .slice none 0 0⟩ := by kernel_rfl
theorem ti126 : tiOf Tryz.prog 126 = some ⟨.slice 128, 1, 24, .slice none 0 0⟩ := by kernel_rfl
def fs128 : Array Field := #[⟨"Kind", 5, 0, false, "", "", 0⟩, ⟨"Names", 29, 1, false, "", "", 8⟩, ⟨"Kids", 126, 2, false, "", "", 32⟩, ⟨"Data", 38, 3, false, "", "", 56⟩, ⟨"Run", 4, 4, false, "", "", 80⟩, ⟨"Stamp", 61, 5, false, "", "", 88⟩, ⟨"Target", 9, 6, false, "", "", 96⟩]
theorem fs128_0 : fs128[0]? = some ⟨"Kind", 5, 0, false, "", "", 0⟩ := rfl
theorem fs128_1 : fs128[1]? = some ⟨"Names", 29, 1, false, "", "", 8⟩ := rfl
theorem fs128_2 : fs128[2]? = some ⟨"Kids", 126, 2, false, "", "", 32⟩ := rfl
theorem fs128_3 : fs128[3]? = some ⟨"Data", 38, 3, false, "", "", 56⟩ := rfl
theorem fs128_4 : fs128[4]? = some ⟨"Run", 4, 4, false, "", "", 80⟩ := rfl
theorem fs128_5 : fs128[5]? = some ⟨"Stamp", 61, 5, false, "", "", 88⟩ := rfl
theorem fs128_6 : fs128[6]? = some ⟨"Target", 9, 6, false, "", "", 96⟩ := rfl
theorem pl128 : placesOf Tryz.prog fs128.toList = some [(0, 1), (1, 1), (2, 1), (3, 1), (4, 1), (5, 1), (6, 1)] := by kernel_rfl
def zero128 : Value := .agg   #[.int (.u8) 0, .slice none 0 0, .slice none 0 0, .slice none 0 0,     .bool false, .float (.f64) 0, .string (⟨#[]⟩)]
theorem zero128_c : ofConst zero128 = .agg [.lit (.int (.u8) 0), .sl .full 0 [], .sl .full 0 [], .sl .full 0 [], .lit (.bool false), .lit (.float (.f64) 0), .lit (.string (⟨#[]⟩))] := rfl
theorem ti128 : tiOf Tryz.prog 128 = some ⟨.struct fs128, 7, 112, zero128⟩ := by kernel_rfl
theorem ti134 : tiOf Tryz.prog 134 = some ⟨.slice 61, 1, 24, .slice none 0 0⟩ := by kernel_rfl
theorem ti149 : tiOf Tryz.prog 149 = some ⟨.map 9 40, 1, 8, .map none⟩ := by kernel_rfl
theorem pt149 : ptrTy Tryz.prog 149 = some true := by kernel_rfl
theorem ti150 : tiOf Tryz.prog 150 = some ⟨.slice 167, 1, 24, .slice none 0 0⟩ := by kernel_rfl
def fs152 : Array Field := #[⟨"l", 149, 0, false, "", "godown/rows", 0⟩, ⟨"journal", 150, 1, false, "", "godown/rows", 8⟩]
theorem fs152_0 : fs152[0]? = some ⟨"l", 149, 0, false, "", "godown/rows", 0⟩ := rfl
theorem fs152_1 : fs152[1]? = some ⟨"journal", 150, 1, false, "", "godown/rows", 8⟩ := rfl
theorem pl152 : placesOf Tryz.prog fs152.toList = some [(0, 1), (1, 1)] := by kernel_rfl
def zero152 : Value := .agg #[.map none, .slice none 0 0]
theorem zero152_c : ofConst zero152 = .agg [.lit (.map none), .sl .full 0 []] := rfl
theorem ti152 : tiOf Tryz.prog 152 = some ⟨.struct fs152, 2, 32, zero152⟩ := by kernel_rfl
theorem ti158 : tiOf Tryz.prog 158 = some ⟨.int .u32, 1, 4, .int (.u32) 0⟩ := by kernel_rfl
theorem ti160 : tiOf Tryz.prog 160 = some ⟨.int .u64, 1, 8, .int (.u64) 0⟩ := by kernel_rfl
def fs167 : Array Field := #[⟨"key", 9, 0, false, "", "godown/rows", 0⟩, ⟨"v", 40, 1, false, "", "godown/rows", 16⟩, ⟨"had", 4, 5, false, "", "godown/rows", 96⟩]
theorem fs167_0 : fs167[0]? = some ⟨"key", 9, 0, false, "", "godown/rows", 0⟩ := rfl
theorem fs167_1 : fs167[1]? = some ⟨"v", 40, 1, false, "", "godown/rows", 16⟩ := rfl
theorem fs167_2 : fs167[2]? = some ⟨"had", 4, 5, false, "", "godown/rows", 96⟩ := rfl
theorem pl167 : placesOf Tryz.prog fs167.toList = some [(0, 1), (1, 4), (5, 1)] := by kernel_rfl
def zero167 : Value := .agg   #[.string (⟨#[]⟩), .string (⟨#[]⟩), .string (⟨#[]⟩), .slice none 0 0,     .slice none 0 0, .bool false]
theorem zero167_c : ofConst zero167 = .agg [.lit (.string (⟨#[]⟩)), .lit (.string (⟨#[]⟩)), .lit (.string (⟨#[]⟩)), .sl .full 0 [], .sl .full 0 [], .lit (.bool false)] := rfl
theorem ti167 : tiOf Tryz.prog 167 = some ⟨.struct fs167, 6, 104, zero167⟩ := by kernel_rfl
def fs173 : Array Field := #[⟨"Up", 5, 0, false, "", "", 0⟩, ⟨"Kind", 5, 1, false, "", "", 1⟩, ⟨"Name", 5, 2, false, "", "", 2⟩, ⟨"Data", 38, 3, false, "", "", 8⟩, ⟨"Run", 4, 4, false, "", "", 32⟩, ⟨"Stamp", 61, 5, false, "", "", 40⟩]
theorem fs173_0 : fs173[0]? = some ⟨"Up", 5, 0, false, "", "", 0⟩ := rfl
theorem fs173_1 : fs173[1]? = some ⟨"Kind", 5, 1, false, "", "", 1⟩ := rfl
theorem fs173_2 : fs173[2]? = some ⟨"Name", 5, 2, false, "", "", 2⟩ := rfl
theorem fs173_3 : fs173[3]? = some ⟨"Data", 38, 3, false, "", "", 8⟩ := rfl
theorem fs173_4 : fs173[4]? = some ⟨"Run", 4, 4, false, "", "", 32⟩ := rfl
theorem fs173_5 : fs173[5]? = some ⟨"Stamp", 61, 5, false, "", "", 40⟩ := rfl
theorem pl173 : placesOf Tryz.prog fs173.toList = some [(0, 1), (1, 1), (2, 1), (3, 1), (4, 1), (5, 1)] := by kernel_rfl
def zero173 : Value := .agg   #[.int (.u8) 0, .int (.u8) 0, .int (.u8) 0,     .slice none 0 0, .bool false, .float (.f64) 0]
theorem zero173_c : ofConst zero173 = .agg [.lit (.int (.u8) 0), .lit (.int (.u8) 0), .lit (.int (.u8) 0), .sl .full 0 [], .lit (.bool false), .lit (.float (.f64) 0)] := rfl
theorem ti173 : tiOf Tryz.prog 173 = some ⟨.struct fs173, 6, 48, zero173⟩ := by kernel_rfl
theorem ti182 : tiOf Tryz.prog 182 = some ⟨.pointer 184, 1, 8, .pointer none⟩ := by kernel_rfl
theorem pt182 : ptrTy Tryz.prog 182 = some false := by kernel_rfl
def fs184 : Array Field := #[⟨"P", 38, 0, false, "", "", 0⟩, ⟨"Fail", 4, 1, false, "", "", 24⟩]
theorem fs184_0 : fs184[0]? = some ⟨"P", 38, 0, false, "", "", 0⟩ := rfl
theorem fs184_1 : fs184[1]? = some ⟨"Fail", 4, 1, false, "", "", 24⟩ := rfl
theorem pl184 : placesOf Tryz.prog fs184.toList = some [(0, 1), (1, 1)] := by kernel_rfl
def zero184 : Value := .agg #[.slice none 0 0, .bool false]
theorem zero184_c : ofConst zero184 = .agg [.sl .full 0 [], .lit (.bool false)] := rfl
theorem ti184 : tiOf Tryz.prog 184 = some ⟨.struct fs184, 2, 32, zero184⟩ := by kernel_rfl
theorem ti188 : tiOf Tryz.prog 188 = some ⟨.pointer 3, 1, 8, .pointer none⟩ := by kernel_rfl
theorem pt188 : ptrTy Tryz.prog 188 = some false := by kernel_rfl
theorem ti192 : tiOf Tryz.prog 192 = some ⟨.map 9 75, 1, 8, .map none⟩ := by kernel_rfl
theorem pt192 : ptrTy Tryz.prog 192 = some true := by kernel_rfl
theorem ti201 : tiOf Tryz.prog 201 = some ⟨.slice 30, 1, 24, .slice none 0 0⟩ := by kernel_rfl
def fs208 : Array Field := #[]
theorem pl208 : placesOf Tryz.prog fs208.toList = some [] := by kernel_rfl
def zero208 : Value := .agg #[]
theorem zero208_c : ofConst zero208 = .agg [] := rfl
theorem ti208 : tiOf Tryz.prog 208 = some ⟨.struct fs208, 0, 0, zero208⟩ := by kernel_rfl
theorem ti209 : tiOf Tryz.prog 209 = some ⟨.pointer 213, 1, 8, .pointer none⟩ := by kernel_rfl
theorem pt209 : ptrTy Tryz.prog 209 = some false := by kernel_rfl
theorem ti210 : tiOf Tryz.prog 210 = some ⟨.pointer 244, 1, 8, .pointer none⟩ := by kernel_rfl
theorem pt210 : ptrTy Tryz.prog 210 = some false := by kernel_rfl
def fs213 : Array Field := #[⟨"r", 210, 0, false, "", "godown/pack", 0⟩, ⟨"nodes", 3, 1, false, "", "godown/pack", 8⟩]
theorem fs213_0 : fs213[0]? = some ⟨"r", 210, 0, false, "", "godown/pack", 0⟩ := rfl
theorem fs213_1 : fs213[1]? = some ⟨"nodes", 3, 1, false, "", "godown/pack", 8⟩ := rfl
theorem pl213 : placesOf Tryz.prog fs213.toList = some [(0, 1), (1, 1)] := by kernel_rfl
def zero213 : Value := .agg #[.pointer none, .int (.i64) 0]
theorem zero213_c : ofConst zero213 = .agg [.lit (.pointer none), .lit (.int (.i64) 0)] := rfl
theorem ti213 : tiOf Tryz.prog 213 = some ⟨.struct fs213, 2, 16, zero213⟩ := by kernel_rfl
def zero221 : Value := .agg (Array.replicate 8 (.int (.u32) 0))
theorem ti221 : tiOf Tryz.prog 221 = some ⟨.array 8 158, 8, 32, zero221⟩ := by kernel_rfl
def fs224 : Array Field := #[⟨"Path", 9, 0, false, "", "", 0⟩, ⟨"At", 30, 1, false, "", "", 16⟩]
theorem fs224_0 : fs224[0]? = some ⟨"Path", 9, 0, false, "", "", 0⟩ := rfl
theorem fs224_1 : fs224[1]? = some ⟨"At", 30, 1, false, "", "", 16⟩ := rfl
theorem pl224 : placesOf Tryz.prog fs224.toList = some [(0, 1), (1, 1)] := by kernel_rfl
def zero224 : Value := .agg #[.string (⟨#[]⟩), .int (.u64) 0]
theorem zero224_c : ofConst zero224 = .agg [.lit (.string (⟨#[]⟩)), .lit (.int (.u64) 0)] := rfl
theorem ti224 : tiOf Tryz.prog 224 = some ⟨.struct fs224, 2, 24, zero224⟩ := by kernel_rfl
theorem ti230 : tiOf Tryz.prog 230 = some ⟨.slice 29, 1, 24, .slice none 0 0⟩ := by kernel_rfl
theorem ti232 : tiOf Tryz.prog 232 = some ⟨.pointer 234, 1, 8, .pointer none⟩ := by kernel_rfl
theorem pt232 : ptrTy Tryz.prog 232 = some false := by kernel_rfl
def fs234 : Array Field := #[⟨"p", 38, 0, false, "", "godown/wire", 0⟩]
theorem fs234_0 : fs234[0]? = some ⟨"p", 38, 0, false, "", "godown/wire", 0⟩ := rfl
theorem pl234 : placesOf Tryz.prog fs234.toList = some [(0, 1)] := by kernel_rfl
def zero234 : Value := .agg #[.slice none 0 0]
theorem zero234_c : ofConst zero234 = .agg [.sl .full 0 []] := rfl
theorem ti234 : tiOf Tryz.prog 234 = some ⟨.struct fs234, 1, 24, zero234⟩ := by kernel_rfl
def fs244 : Array Field := #[⟨"p", 38, 0, false, "", "godown/wire", 0⟩, ⟨"fail", 4, 1, false, "", "godown/wire", 24⟩]
theorem fs244_0 : fs244[0]? = some ⟨"p", 38, 0, false, "", "godown/wire", 0⟩ := rfl
theorem fs244_1 : fs244[1]? = some ⟨"fail", 4, 1, false, "", "godown/wire", 24⟩ := rfl
theorem pl244 : placesOf Tryz.prog fs244.toList = some [(0, 1), (1, 1)] := by kernel_rfl
def zero244 : Value := .agg #[.slice none 0 0, .bool false]
theorem zero244_c : ofConst zero244 = .agg [.sl .full 0 [], .lit (.bool false)] := rfl
theorem ti244 : tiOf Tryz.prog 244 = some ⟨.struct fs244, 2, 32, zero244⟩ := by kernel_rfl
def zero248 : Value := .agg (Array.replicate 64 (.int (.u32) 0))
theorem ti248 : tiOf Tryz.prog 248 = some ⟨.array 64 158, 64, 256, zero248⟩ := by kernel_rfl
theorem ti251 : tiOf Tryz.prog 251 = some ⟨.int .i64, 1, 8, .int (.i64) 0⟩ := by kernel_rfl
def zero263 : Value := .agg (Array.replicate 256 (.bool false))
theorem ti263 : tiOf Tryz.prog 263 = some ⟨.array 256 4, 256, 256, zero263⟩ := by kernel_rfl
theorem ti267 : tiOf Tryz.prog 267 = some ⟨.pointer 263, 1, 8, .pointer none⟩ := by kernel_rfl
theorem pt267 : ptrTy Tryz.prog 267 = some false := by kernel_rfl
theorem ti271 : tiOf Tryz.prog 271 = some ⟨.pointer 273, 1, 8, .pointer none⟩ := by kernel_rfl
theorem pt271 : ptrTy Tryz.prog 271 = some false := by kernel_rfl
def fs273 : Array Field := #[⟨"addr", 271, 0, false, "", "strings", 0⟩, ⟨"buf", 38, 1, false, "", "strings", 8⟩]
theorem fs273_0 : fs273[0]? = some ⟨"addr", 271, 0, false, "", "strings", 0⟩ := rfl
theorem fs273_1 : fs273[1]? = some ⟨"buf", 38, 1, false, "", "strings", 8⟩ := rfl
theorem pl273 : placesOf Tryz.prog fs273.toList = some [(0, 1), (1, 1)] := by kernel_rfl
def zero273 : Value := .agg #[.pointer none, .slice none 0 0]
theorem zero273_c : ofConst zero273 = .agg [.lit (.pointer none), .sl .full 0 []] := rfl
theorem ti273 : tiOf Tryz.prog 273 = some ⟨.struct fs273, 2, 32, zero273⟩ := by kernel_rfl
theorem ti282 : tiOf Tryz.prog 282 = some ⟨.int .u64, 1, 8, .int (.u64) 0⟩ := by kernel_rfl
theorem ti289 : tiOf Tryz.prog 289 = some ⟨.pointer 5, 1, 8, .pointer none⟩ := by kernel_rfl
theorem pt289 : ptrTy Tryz.prog 289 = some false := by kernel_rfl
theorem ti295 : tiOf Tryz.prog 295 = some ⟨.unsafePointer, 1, 8, .pointer none⟩ := by kernel_rfl
def zero297 : Value := .agg (Array.replicate 256 (.int (.u8) 0))
theorem ti297 : tiOf Tryz.prog 297 = some ⟨.array 256 5, 256, 256, zero297⟩ := by kernel_rfl
def fs299 : Array Field := #[⟨"lo", 5, 0, false, "", "unicode/utf8", 0⟩, ⟨"hi", 5, 1, false, "", "unicode/utf8", 1⟩]
theorem fs299_0 : fs299[0]? = some ⟨"lo", 5, 0, false, "", "unicode/utf8", 0⟩ := rfl
theorem fs299_1 : fs299[1]? = some ⟨"hi", 5, 1, false, "", "unicode/utf8", 1⟩ := rfl
theorem pl299 : placesOf Tryz.prog fs299.toList = some [(0, 1), (1, 1)] := by kernel_rfl
def zero299 : Value := .agg #[.int (.u8) 0, .int (.u8) 0]
theorem zero299_c : ofConst zero299 = .agg [.lit (.int (.u8) 0), .lit (.int (.u8) 0)] := rfl
theorem ti299 : tiOf Tryz.prog 299 = some ⟨.struct fs299, 2, 2, zero299⟩ := by kernel_rfl
def zero300 : Value := .agg (Array.replicate 32 (.int (.u8) 0))
theorem ti300 : tiOf Tryz.prog 300 = some ⟨.array 16 299, 32, 32, zero300⟩ := by kernel_rfl
attribute [go_sem] ti3 ti4 un4 ti5 ti9 ti21 ti23 pt23 ti25 fs27_0 fs27_1 pl27 zero27_c ti27 ti28 ti29 ti30 ti31 fs33_0 fs33_1 fs33_2 fs33_3 fs33_4 pl33 zero33_c ti33 ti35 ti38 fs40_0 fs40_1 fs40_2 fs40_3 pl40 zero40_c ti40 ti46 ti47 fs49_0 fs49_1 fs49_2 pl49 zero49_c ti49 fs51_0 fs51_1 fs51_2 fs51_3 fs51_4 pl51 zero51_c ti51 ti53 fs55_0 fs55_1 fs55_2 fs55_3 pl55 zero55_c ti55 ti57 fs59_0 fs59_1 fs59_2 fs59_3 fs59_4 fs59_5 pl59 zero59_c ti59 ti61 fs63_0 fs63_1 fs63_2 fs63_3 fs63_4 fs63_5 pl63 zero63_c ti63 ti75 fs77_0 fs77_1 fs77_2 fs77_3 pl77 zero77_c ti77 ti78 ti88 pt88 ti90 pt90 ti91 pt91 ti92 pt92 fs94_0 fs94_1 fs94_2 fs94_3 fs94_4 pl94 zero94_c ti94 ti107 ti126 fs128_0 fs128_1 fs128_2 fs128_3 fs128_4 fs128_5 fs128_6 pl128 zero128_c ti128 ti134 ti149 pt149 ti150 fs152_0 fs152_1 pl152 zero152_c ti152 ti158 ti160 fs167_0 fs167_1 fs167_2 pl167 zero167_c ti167 fs173_0 fs173_1 fs173_2 fs173_3 fs173_4 fs173_5 pl173 zero173_c ti173 ti182 pt182 fs184_0 fs184_1 pl184 zero184_c ti184 ti188 pt188 ti192 pt192 ti201 pl208 zero208_c ti208 ti209 pt209 ti210 pt210 fs213_0 fs213_1 pl213 zero213_c ti213 ti221 fs224_0 fs224_1 pl224 zero224_c ti224 ti230 ti232 pt232 fs234_0 pl234 zero234_c ti234 fs244_0 fs244_1 pl244 zero244_c ti244 ti248 ti251 ti263 ti267 pt267 ti271 pt271 fs273_0 fs273_1 pl273 zero273_c ti273 ti282 ti289 pt289 ti295 ti297 fs299_0 fs299_1 pl299 zero299_c ti299 ti300
end Go.Proofs.YtlljknmojafkoaaGreatDoor
namespace Go.Proofs.YtlljknmojafkoaaGreatDoor
open Go.RowKit TL
def firsts : List Nat := [0x6a09e667, 0xbb67ae85, 0x3c6ef372, 0xa54ff53a, 0x510e527f, 0x9b05688c, 0x1f83d9ab, 0x5be0cd19]
def keys : List Nat := [
  0x428a2f98, 0x71374491, 0xb5c0fbcf, 0xe9b5dba5, 0x3956c25b, 0x59f111f1, 0x923f82a4, 0xab1c5ed5,
  0xd807aa98, 0x12835b01, 0x243185be, 0x550c7dc3, 0x72be5d74, 0x80deb1fe, 0x9bdc06a7, 0xc19bf174,
  0xe49b69c1, 0xefbe4786, 0x0fc19dc6, 0x240ca1cc, 0x2de92c6f, 0x4a7484aa, 0x5cb0a9dc, 0x76f988da,
  0x983e5152, 0xa831c66d, 0xb00327c8, 0xbf597fc7, 0xc6e00bf3, 0xd5a79147, 0x06ca6351, 0x14292967,
  0x27b70a85, 0x2e1b2138, 0x4d2c6dfc, 0x53380d13, 0x650a7354, 0x766a0abb, 0x81c2c92e, 0x92722c85,
  0xa2bfe8a1, 0xa81a664b, 0xc24b8b70, 0xc76c51a3, 0xd192e819, 0xd6990624, 0xf40e3585, 0x106aa070,
  0x19a4c116, 0x1e376c08, 0x2748774c, 0x34b0bcb5, 0x391c0cb3, 0x4ed8aa4a, 0x5b9cca4f, 0x682e6ff3,
  0x748f82ee, 0x78a5636f, 0x84c87814, 0x8cc70208, 0x90befffa, 0xa4506ceb, 0xbef9a3f7, 0xc67178f2]
def kW : List (BitVec 32) := keys.map (BitVec.ofNat 32)
def fW : List (BitVec 32) := firsts.map (BitVec.ofNat 32)
def glob : Nat → TV
  | 0 => .eptr 8 (.agg (gD fW))
  | 2 => .eptr 64 (.agg (gD kW))
  | _ => .unk
def wrAt (p : String) : Bool := p == "law.go:40" || p == "slices.go:362"
noncomputable def env : Env := { P := Tryz.prog, G := glob, wr := wrAt }
theorem env_wr (p : String) : env.wr p = if (p == "law.go:40") = true then true else p == "slices.go:362" := by
  show (p == "law.go:40" || p == "slices.go:362") = _
  cases p == "law.go:40" <;> rfl
attribute [go_sem] env_wr
theorem env_P : env.P = Tryz.prog := rfl
def z64 : List (BitVec 32) := List.replicate 64 0
def z8 : List (BitVec 32) := List.replicate 8 0
theorem zeroA64_c : ofConst zero248 = .agg (dW z64) := rfl
theorem zeroA8_c : ofConst zero221 = .agg (dW z8) := rfl
theorem z64_len : z64.length = 64 := rfl
theorem z8_len : z8.length = 8 := rfl
theorem kW_len : kW.length = 64 := rfl
theorem fW_len : fW.length = 8 := rfl
theorem env_G : env.G = glob := rfl
theorem glob_0 : glob 0 = .eptr 8 (.agg (gD fW)) := rfl
theorem glob_1 : glob 2 = .eptr 64 (.agg (gD kW)) := rfl
attribute [go_sem] env_G glob_0 glob_1 zeroA64_c zeroA8_c z64_len z8_len kW_len fW_len
attribute [go_sem] env_P
def rot (x : BitVec 32) (k : Int) : BitVec 32 := x <<< (BitVec.ofInt 64 k &&& 31#64).toNat ||| x >>> (32#64 - (BitVec.ofInt 64 k &&& 31#64)).toNat
theorem rot_ok (S : TS) (x : BitVec 32) (k : Int) : TCall env 211 [.lit (w32 x), .lit (.int .i64 k)] S fun r S' => r = .lit (w32 (rot x k)) ∧ S' = S := by
  refine TCall.of 17 [.tmp 4] Tryz.func211 rfl rfl rfl rfl (by kernel_rfl) rfl ?_
  refine TWp.sr fun K hK => ?_
  simp (disch := omega) only [seval, go_sem]
  refine hK _ _ ?_
  clear hK; clear K
  refine TWp.sr fun K hK => ?_
  simp (disch := omega) only [seval, go_sem]
  refine hK _ _ ?_
  clear hK; clear K
  refine TWp.sr fun K hK => ?_
  simp (disch := omega) only [seval, go_sem]
  refine hK _ _ ?_
  exact TWp.ret ⟨.inr rfl, [_], ⟨rfl, trivial⟩, rfl, rfl⟩
def nought (q : List (BitVec 8)) : Nat := (120 - q.length % 64) % 64
def lenBytes (n : BitVec 64) : Nat → List (BitVec 8)
  | 0 => []
  | i + 1 => (n >>> (8 * i)).setWidth 8 :: lenBytes n i
def padding (p : List (BitVec 8)) : List (BitVec 8) := (p ++ [128#8]) ++ List.replicate (nought (p ++ [128#8])) 0#8 ++ lenBytes (BitVec.ofNat 64 p.length * 8#64) 8
theorem padded_ok (S : TS) (g : Tag) (p : List (BitVec 8)) (hp : p.length ≤ 1000000) : TCall env 174 [.sl g 1 (dB p)] S fun r S' => ∃ k, r = .sl (.own k) 1 (dB (padding p)) ∧ S.n ≤ k ∧ S'.objs k = .lin ∧ Keep S S' := by
  refine TCall.of 35 [.tmp 2] Tryz.func174 rfl rfl rfl rfl (by kernel_rfl) rfl ?_
  refine TWp.sr fun K hK => ?_
  simp (disch := omega) only [seval, go_sem]
  refine hK _ _ ?_
  clear hK; clear K
  refine TWp.sr fun K hK => ?_
  simp (disch := omega) only [seval, go_sem]
  refine ⟨by omega, by omega, hK _ _ ?_⟩
  clear hK; clear K
  refine TWp.seq_k fun K hK => ?_
  refine TWp.block (TWp.loop (fun n T S' => ∃ xs k, T 0 = .sl g 1 (dB p) ∧ T 3 = .sl (.own k) 1 (dB xs) ∧ S.n ≤ k ∧ S'.objs k = .lin ∧ Keep S S' ∧ xs.length + n ≤ 1000100 ∧ n = nought xs ∧ xs ++ List.replicate n 0#8 = (p ++ [128#8]) ++ List.replicate (nought (p ++ [128#8])) 0#8) (nought (p ++ [128#8])) ?_ ?_)
  · refine ⟨p ++ [128#8], _, rfl, by simp [dB, upd]; rfl, by simp [upd], ?_, ?_, ?_, rfl, rfl⟩
    · exact push_self _ _
    · exact (Keep.push S _).push' _
    · simp [nought]; omega
  rintro n T S' ⟨xs, k, h0, h3, hk, ho, hkeep, hlen, hn, hxs⟩
  refine TWp.seq_k fun K1 hK1 => TWp.sr fun K2 hK2 => ?_
  simp (disch := omega) only [seval, go_sem, h0, h3]
  refine hK2 _ _ (TWp.cond rfl (fun hb => TWp.skip (hK1 _ _ ?_)) (fun hb => TWp.exit (hK _ _ ?_)))
  · clear hK2; clear K2; clear hK1; clear K1
    refine TWp.block (TWp.rk fun K1 hK1 => ?_)
    simp (disch := omega) only [seval, go_sem, h0, h3, ho]
    refine ⟨by omega, hK1 _ _ ?_⟩
    clear hK1; clear K1
    have hb := of_decide_eq_true hb
    have h1 : nought xs = nought (xs ++ [0#8]) + 1 := by simp [nought]; omega
    refine ⟨nought (xs ++ [0#8]), by omega, xs ++ [0#8], _, by simp [upd, h0], by simp [dB, upd], hkeep.1, push_self _ _, (hkeep.set hk _).push' _, by simp; omega, rfl, ?_⟩
    rw [← hxs, hn, h1, List.replicate_succ]; simp
  have hb := of_decide_eq_false hb
  clear hK2; clear K2; clear hK1; clear K1; clear hK; clear K
  have hn0 : n = 0 := by rw [hn]; simp only [nought]; omega
  subst hn0
  simp only [List.replicate_zero, List.append_nil] at hxs
  refine TWp.sr fun K hK => ?_
  simp (disch := omega) only [seval, go_sem, h0, h3]
  refine hK _ _ ?_
  clear hK; clear K
  refine TWp.seq_k fun K hK => TWp.sr fun K1 hK1 => ?_
  simp (disch := omega) only [seval, go_sem, h0, h3]
  refine hK1 _ _ ?_
  clear hK1; clear K1
  refine TWp.block (TWp.loop (fun m T S' => ∃ ys k, T 4 = .lit (w64 (BitVec.ofNat 64 p.length * 8#64)) ∧ T 5 = .lit (.int .i64 ((m : Int) - 1)) ∧ T 3 = .sl (.own k) 1 (dB ys) ∧ S.n ≤ k ∧ S'.objs k = .lin ∧ Keep S S' ∧ ys.length + m ≤ 1000200 ∧ m ≤ 8 ∧ ys ++ lenBytes (BitVec.ofNat 64 p.length * 8#64) m = padding p) 8 ?_ ?_)
  · refine ⟨xs, k, rfl, rfl, by simp [upd, h3], hk, ho, hkeep, by omega, by omega, ?_⟩
    rw [padding, ← hxs]
  rintro m T S' ⟨ys, k, h4, h5, h3, hk, ho, hkeep, hlen, hm, hys⟩
  refine TWp.seq_k fun K1 hK1 => TWp.sr fun K2 hK2 => ?_
  simp (disch := omega) only [seval, go_sem, h4, h5, h3]
  refine hK2 _ _ (TWp.cond rfl (fun hb => TWp.skip (hK1 _ _ ?_)) (fun hb => TWp.exit (hK _ _ ?_)))
  · clear hK2; clear K2; clear hK1; clear K1
    have hb := of_decide_eq_true hb
    refine TWp.seq_k fun K0 hK0 => TWp.block (TWp.rk fun K1 hK1 => ?_)
    simp (disch := omega) only [seval, go_sem, h3, h4, h5, ho]
    refine ⟨by omega, hK1 _ _ (hK0 _ _ ?_)⟩
    clear hK1; clear K1; clear hK0; clear K0
    refine TWp.rk fun K1 hK1 => ?_
    simp (disch := omega) only [seval, go_sem, h3, h4, h5, ho]
    refine hK1 _ _ ?_
    clear hK1; clear K1
    obtain ⟨j, rfl⟩ : ∃ j, m = j + 1 := ⟨m - 1, by omega⟩
    refine ⟨j, by omega, ys ++ [((BitVec.ofNat 64 p.length * 8#64) >>> (8 * j)).setWidth 8], _, by simp [upd, h4], ?_, ?_, hkeep.1, push_self _ _, (hkeep.set hk _).push' _, by simp; omega, by omega, ?_⟩
    · simp [upd]
    · simp [upd, dB]
    · rw [← hys]; simp [lenBytes]
  have hb := of_decide_eq_false hb
  clear hK2; clear K2; clear hK1; clear K1; clear hK; clear K
  have hm0 : m = 0 := by omega
  subst hm0
  simp only [lenBytes, List.append_nil] at hys
  refine TWp.sr fun K hK => ?_
  simp (disch := omega) only [seval, go_sem, h3]
  refine hK _ _ ?_
  clear hK; clear K
  exact TWp.ret ⟨.inr rfl, [_], ⟨rfl, trivial⟩, k, by rw [← hys]; rfl, hk, ho, hkeep⟩
end Go.Proofs.YtlljknmojafkoaaGreatDoor
namespace Go.Proofs.YtlljknmojafkoaaGreatDoor
open Go.RowKit TL
theorem follows : env.P.follows .mixedOrders = true := by kernel_rfl
def wordAt (p : List (BitVec 8)) (i : Nat) : BitVec 32 :=
  (BitVec.setWidth 32 (p.getD i 0)) <<< 24 ||| (BitVec.setWidth 32 (p.getD (i + 1) 0)) <<< 16 ||| (BitVec.setWidth 32 (p.getD (i + 2) 0)) <<< 8 ||| (BitVec.setWidth 32 (p.getD (i + 3) 0))
def low (a : BitVec 32) : BitVec 32 := rot a (-7) ^^^ rot a (-18) ^^^ a >>> 3
def high (b : BitVec 32) : BitVec 32 := rot b (-17) ^^^ rot b (-19) ^^^ b >>> 10
def wordStep (p : List (BitVec 8)) (i : Nat) (w : List (BitVec 32)) : BitVec 32 :=
  if i < 16 then wordAt p (4 * i) else w.getD (i - 16) 0 + low (w.getD (i - 15) 0) + w.getD (i - 7) 0 + high (w.getD (i - 2) 0)
def sched (p : List (BitVec 8)) : Nat → List (BitVec 32)
  | 0 => z64
  | i + 1 => (sched p i).set i (wordStep p i (sched p i))
theorem sched_len (p : List (BitVec 8)) : ∀ i, (sched p i).length = 64
  | 0 => rfl
  | i + 1 => by simp [sched, sched_len p i]
theorem c_bits_RotateLeft32 {S : TS} {x : BitVec 32} {k : Int} {K : TV → TS → Prop} (h : K (.lit (w32 (rot x k))) S) : TCall env 211 [.lit (w32 x), .lit (.int .i64 k)] S K :=
  (rot_ok S x k).mono fun t S' ⟨h1, h2⟩ => by rw [h1, h2]; exact h
set_option maxRecDepth 8000 in
theorem c_hash_schedule_ok (S : TS) (g : Tag) (p : List (BitVec 8)) (hp : p.length = 64) : TCall env 210 [.sl g 1 (dB p)] S fun r S' => r = .agg (dW (sched p 64)) ∧ Keep S S' := by
  refine TCall.of 90 [.cell 2 248] Tryz.func210 rfl rfl rfl rfl (by kernel_rfl) rfl ?_
  refine TWp.sr fun K0 hK0 => ?_
  simp (disch := omega) only [seval, go_sem]
  repeat (refine ⟨by omega, ?_⟩)
  refine hK0 _ _ ?_; try (clear hK0; clear K0)
  refine TWp.sr fun K1 hK1 => ?_
  simp (disch := omega) only [seval, go_sem]
  repeat (refine ⟨by omega, ?_⟩)
  refine hK1 _ _ ?_; try (clear hK1; clear K1)
  refine TWp.seq_k fun K2 hK2 => ?_
  refine TWp.sr fun K3 hK3 => ?_
  simp (disch := omega) only [seval, go_sem]
  repeat (refine ⟨by omega, ?_⟩)
  refine hK3 _ _ ?_; try (clear hK3; clear K3)
  refine TWp.block ?_
  refine TWp.loop (fun n T S' => ∃ i ws, n + i = 64 ∧ ws = sched p i ∧ ws.length = 64 ∧ T 0 = .sl g 1 (dB p) ∧ T 2 = .ptr S.n 0 ∧ T 3 = .ptr (S.n + 1) 0 ∧ T 9 = .lit (.int .i64 (i : Int)) ∧ S' = ((S.push (.cells 248 (dW z64))).push (.cells 248 (dW ws)))) 64 ?_ ?_
  · exact ⟨0, _, rfl, rfl, rfl, rfl, rfl, rfl, rfl, rfl⟩
  rintro n T S' ⟨i, ws, hm, hws, hwl, h0, h2, h3, h9, rfl⟩
  refine TWp.sr fun K4 hK4 => ?_
  simp (disch := omega) only [seval, go_sem, h0, h2, h3, h9]
  repeat (refine ⟨by omega, ?_⟩)
  refine hK4 _ _ ?_; try (clear hK4; clear K4)
  refine TWp.seq_k fun K5 hK5 => ?_
  refine TWp.cond rfl (fun hb => ?_) (fun hb => ?_)
  · try (replace hb := of_decide_eq_true hb)
    refine TWp.skip ?_
    refine hK5 _ _ ?_; try (clear hK5; clear K5)
    refine TWp.seq_k fun K6 hK6 => ?_
    refine TWp.block ?_
    refine TWp.sr fun K7 hK7 => ?_
    simp (disch := omega) only [seval, go_sem, h0, h2, h3, h9]
    repeat (refine ⟨by omega, ?_⟩)
    refine hK7 _ _ ?_; try (clear hK7; clear K7)
    refine TWp.seq_k fun K8 hK8 => ?_
    refine TWp.sr fun K9 hK9 => ?_
    simp (disch := omega) only [seval, go_sem, h0, h2, h3, h9]
    repeat (refine ⟨by omega, ?_⟩)
    refine hK9 _ _ ?_; try (clear hK9; clear K9)
    refine TWp.cond rfl (fun hb => ?_) (fun hb => ?_)
    · try (replace hb := of_decide_eq_true hb)
      refine TWp.sd [(0, 0), (1, 0), (2, 0), (3, 0), (4, 0), (5, 0), (6, 0), (7, 0), (8, 0), (9, 0), (10, 0), (11, 0), (12, 0), (13, 0), (14, 0), (15, 0), (16, 0), (17, 0), (18, 0), (19, 0), (20, 0), (21, 0), (22, 0), (23, 0), (24, 0), (25, 0), (26, 0), (27, 0), (28, 0), (29, 0), (30, 0), (31, 0), (32, 0), (33, 0), (34, 0), (35, 2)] follows (by kernel_rfl) fun K10 hK10 => ?_
      simp (disch := omega) only [seval, go_sem, h0, h2, h3, h9]
      repeat (refine ⟨by omega, ?_⟩)
      refine hK10 _ _ ?_; try (clear hK10; clear K10)
      refine TWp.exit ?_
      refine hK6 _ _ ?_; try (clear hK6; clear K6)
      refine TWp.rk fun K11 hK11 => ?_
      simp (disch := omega) only [seval, go_sem, h0, h2, h3, h9]
      repeat (refine ⟨by omega, ?_⟩)
      refine hK11 _ _ ?_; try (clear hK11; clear K11)
      subst hws
      refine ⟨n - 1, by omega, i + 1, _, by omega, rfl, sched_len p (i + 1), h0, h2, h3, rfl, ?_⟩
      rw [sched, wordStep, if_pos (by omega)]
      rfl
    · try (replace hb := of_decide_eq_false hb)
      refine TWp.skip ?_
      refine hK8 _ _ ?_; try (clear hK8; clear K8)
      refine TWp.sd [(0, 0), (1, 0), (2, 0), (3, 0), (4, 0), (5, 0), (6, 0), (7, 0), (8, 0), (9, 0)] follows (by kernel_rfl) fun K12 hK12 => ?_
      simp (disch := omega) only [seval, go_sem, h0, h2, h3, h9]
      repeat (refine ⟨by omega, ?_⟩)
      refine hK12 _ _ ?_; try (clear hK12; clear K12)
      refine TWp.sr fun K13 hK13 => ?_
      simp (disch := omega) only [seval, go_sem, h0, h2, h3, h9]
      refine c_bits_RotateLeft32 ?_
      simp (disch := omega) only [seval, go_sem, h0, h2, h3, h9]
      refine c_bits_RotateLeft32 ?_
      simp (disch := omega) only [seval, go_sem, h0, h2, h3, h9]
      repeat (refine ⟨by omega, ?_⟩)
      refine hK13 _ _ ?_; try (clear hK13; clear K13)
      refine TWp.sr fun K14 hK14 => ?_
      simp (disch := omega) only [seval, go_sem, h0, h2, h3, h9]
      refine c_bits_RotateLeft32 ?_
      simp (disch := omega) only [seval, go_sem, h0, h2, h3, h9]
      refine c_bits_RotateLeft32 ?_
      simp (disch := omega) only [seval, go_sem, h0, h2, h3, h9]
      repeat (refine ⟨by omega, ?_⟩)
      refine hK14 _ _ ?_; try (clear hK14; clear K14)
      refine TWp.dk [(0, 0), (1, 0), (2, 0), (3, 0), (4, 0), (5, 0), (6, 0), (7, 0), (8, 0), (9, 0), (10, 0), (11, 0), (12, 0), (13, 0), (14, 0), (15, 2)] follows (by kernel_rfl) fun K15 hK15 => ?_
      simp (disch := omega) only [seval, go_sem, h0, h2, h3, h9]
      repeat (refine ⟨by omega, ?_⟩)
      refine hK15 _ _ ?_; try (clear hK15; clear K15)
      refine hK6 _ _ ?_; try (clear hK6; clear K6)
      refine TWp.rk fun K16 hK16 => ?_
      simp (disch := omega) only [seval, go_sem, h0, h2, h3, h9]
      repeat (refine ⟨by omega, ?_⟩)
      refine hK16 _ _ ?_; try (clear hK16; clear K16)
      subst hws
      refine ⟨n - 1, by omega, i + 1, _, by omega, rfl, sched_len p (i + 1), h0, h2, h3, rfl, ?_⟩
      rw [sched, wordStep, if_neg (by omega)]
      rfl
  · try (replace hb := of_decide_eq_false hb)
    refine TWp.exit ?_
    refine hK2 _ _ ?_; try (clear hK2; clear K2)
    refine TWp.sr fun K17 hK17 => ?_
    simp (disch := omega) only [seval, go_sem, h0, h2, h3, h9]
    repeat (refine ⟨by omega, ?_⟩)
    refine hK17 _ _ ?_; try (clear hK17; clear K17)
    have hi : i = 64 := by omega
    subst hi
    refine TWp.ret ⟨.inr rfl, [.agg (dW ws)], ⟨resCell h2 ti248 (e := 248) ?_ rfl ?_, trivial⟩, by rw [hws]; rfl, ?_⟩
    · rw [push_sel, sel_ne (by simp only [TS.push_n]; omega), push_sel, sel_eq rfl, splL_all (by rw [hwl]; rfl)]
    · rw [dW_len]; exact hwl
    · exact (Keep.push S _).push' _
theorem c_hash_schedule {S : TS} {g : Tag} {p : List (BitVec 8)} {K : TV → TS → Prop} (h : K (.agg (dW (sched p 64))) S) (hp : p.length = 64 := by omega) : TCall env 210 [.sl g 1 (dB p)] S K :=
  (TCall.pure (c_hash_schedule_ok S g p hp) (ren_dW _ _ _)).mono fun t S' ⟨h1, h2⟩ => by rw [h1, h2]; exact h
end Go.Proofs.YtlljknmojafkoaaGreatDoor
namespace Go.Proofs.YtlljknmojafkoaaGreatDoor
open Go.RowKit TL
def turnStep (w : List (BitVec 32)) (i : Nat) (s : List (BitVec 32)) : List (BitVec 32) :=
  let e := rot (s.getD 4 0) (-6) ^^^ rot (s.getD 4 0) (-11) ^^^ rot (s.getD 4 0) (-25)
  let choice := (s.getD 4 0 &&& s.getD 5 0) ^^^ (~~~ s.getD 4 0 &&& s.getD 6 0)
  let x := s.getD 7 0 + e + choice + kW.getD i 0 + w.getD i 0
  let a := rot (s.getD 0 0) (-2) ^^^ rot (s.getD 0 0) (-13) ^^^ rot (s.getD 0 0) (-22)
  let most := (s.getD 0 0 &&& s.getD 1 0) ^^^ (s.getD 0 0 &&& s.getD 2 0) ^^^ (s.getD 1 0 &&& s.getD 2 0)
  ((splL s 1 (s.take 7)).set 4 ((splL s 1 (s.take 7)).getD 4 0 + x)).set 0 (x + a + most)
def turnUpto (p : List (BitVec 8)) (h : List (BitVec 32)) : Nat → List (BitVec 32)
  | 0 => h
  | i + 1 => turnStep (sched p 64) i (turnUpto p h i)
def addUpto (h s : List (BitVec 32)) : Nat → List (BitVec 32)
  | 0 => h
  | i + 1 => (addUpto h s i).set i ((addUpto h s i).getD i 0 + s.getD i 0)
def turn (h : List (BitVec 32)) (p : List (BitVec 8)) : List (BitVec 32) := addUpto h (turnUpto p h 64) 8
theorem turnUpto_len (p : List (BitVec 8)) (h : List (BitVec 32)) (hh : h.length = 8) : ∀ i, (turnUpto p h i).length = 8
  | 0 => hh
  | i + 1 => by simp [turnUpto, turnStep, splL_len, turnUpto_len p h hh i]
theorem addUpto_len (h s : List (BitVec 32)) (hh : h.length = 8) : ∀ i, (addUpto h s i).length = 8
  | 0 => hh
  | i + 1 => by simp [addUpto, addUpto_len h s hh i]
set_option maxRecDepth 8000 in
set_option maxHeartbeats 1000000 in
theorem c_hash_turn_ok (S : TS) (g : Tag) (h : List (BitVec 32)) (p : List (BitVec 8)) (hh : h.length = 8) (hp : p.length = 64) : TCall env 175 [.agg (dW h), .sl g 1 (dB p)] S fun r S' => r = .agg (dW (turn h p)) ∧ Keep S S' := by
  have hz8 := z8_len
  refine TCall.of 112 [.cell 4 221] Tryz.func175 rfl rfl rfl rfl (by kernel_rfl) rfl ?_
  refine TWp.sr fun K0 hK0 => ?_
  simp (disch := omega) only [seval, go_sem]
  repeat (refine ⟨by omega, ?_⟩)
  refine hK0 _ _ ?_; try (clear hK0; clear K0)
  refine TWp.sr fun K1 hK1 => ?_
  simp (disch := omega) only [seval, go_sem]
  repeat (refine ⟨by omega, ?_⟩)
  refine hK1 _ _ ?_; try (clear hK1; clear K1)
  refine TWp.seq_k fun K2 hK2 => ?_
  refine TWp.sr fun K3 hK3 => ?_
  simp (disch := omega) only [seval, go_sem]
  repeat (refine ⟨by omega, ?_⟩)
  refine c_hash_schedule ?_
  simp (disch := omega) only [seval, go_sem]
  repeat (refine ⟨by omega, ?_⟩)
  refine hK3 _ _ ?_; try (clear hK3; clear K3)
  refine TWp.block ?_
  refine TWp.loop (fun n T S' => ∃ i s, n + i = 64 ∧ s = turnUpto p h i ∧ s.length = 8 ∧ T 2 = .ptr S.n 0 ∧ T 4 = .ptr (S.n + 1) 0 ∧ T 5 = .ptr (S.n + 2) 0 ∧ T 16 = .agg (dW (sched p 64)) ∧ T 17 = .lit (.int .i64 (i : Int)) ∧ S' = ((S.push (.cells 221 (dW h))).push (.cells 221 (dW z8))).push (.cells 221 (dW s))) (64) ?_ ?_
  · exact ⟨0, _, rfl, rfl, hh, rfl, rfl, rfl, rfl, rfl, rfl⟩
  rintro n T S' ⟨i, s, hm, hs, hsl, h2, h4, h5, h16, h17, rfl⟩
  have hwl := sched_len p 64
  have hkl := kW_len
  have hsp := splL_len (s.take 7) s 1
  refine TWp.sr fun K4 hK4 => ?_
  simp (disch := omega) only [seval, go_sem, h2, h4, h5, h16, h17]
  repeat (refine ⟨by omega, ?_⟩)
  refine hK4 _ _ ?_; try (clear hK4; clear K4)
  refine TWp.seq_k fun K5 hK5 => ?_
  refine TWp.cond rfl (fun hb => ?_) (fun hb => ?_)
  · try (replace hb := of_decide_eq_true hb)
    refine TWp.skip ?_
    refine hK5 _ _ ?_; try (clear hK5; clear K5)
    refine TWp.seq_k fun K6 hK6 => ?_
    refine TWp.block ?_
    refine TWp.sr fun K7 hK7 => ?_
    simp (disch := omega) only [seval, go_sem, h2, h4, h5, h16, h17]
    repeat (refine ⟨by omega, ?_⟩)
    refine hK7 _ _ ?_; try (clear hK7; clear K7)
    refine TWp.sd [(0, 0), (1, 0), (3, 0), (4, 0), (7, 0), (8, 0), (2, 1), (5, 1), (6, 0), (9, 1), (10, 0), (11, 0)] follows (by kernel_rfl) fun K8 hK8 => ?_
    simp (disch := omega) only [seval, go_sem, h2, h4, h5, h16, h17]
    repeat (refine ⟨by omega, ?_⟩)
    refine c_bits_RotateLeft32 ?_
    simp (disch := omega) only [seval, go_sem, h2, h4, h5, h16, h17]
    repeat (refine ⟨by omega, ?_⟩)
    refine c_bits_RotateLeft32 ?_
    simp (disch := omega) only [seval, go_sem, h2, h4, h5, h16, h17]
    repeat (refine ⟨by omega, ?_⟩)
    refine c_bits_RotateLeft32 ?_
    simp (disch := omega) only [seval, go_sem, h2, h4, h5, h16, h17]
    repeat (refine ⟨by omega, ?_⟩)
    refine hK8 _ _ ?_; try (clear hK8; clear K8)
    refine TWp.sr fun K9 hK9 => ?_
    simp (disch := omega) only [seval, go_sem, h2, h4, h5, h16, h17]
    repeat (refine ⟨by omega, ?_⟩)
    refine hK9 _ _ ?_; try (clear hK9; clear K9)
    refine TWp.sd [(0, 0), (1, 0), (2, 0), (3, 0), (4, 0), (5, 0), (6, 0), (7, 0), (8, 0), (9, 0), (10, 0), (11, 0), (12, 0)] follows (by kernel_rfl) fun K10 hK10 => ?_
    simp (disch := omega) only [seval, go_sem, h2, h4, h5, h16, h17]
    repeat (refine ⟨by omega, ?_⟩)
    refine hK10 _ _ ?_; try (clear hK10; clear K10)
    refine TWp.sd [(0, 0), (1, 0), (3, 0), (4, 0), (7, 0), (8, 0), (2, 1), (5, 1), (6, 0), (9, 1), (10, 0), (11, 0)] follows (by kernel_rfl) fun K11 hK11 => ?_
    simp (disch := omega) only [seval, go_sem, h2, h4, h5, h16, h17]
    repeat (refine ⟨by omega, ?_⟩)
    refine c_bits_RotateLeft32 ?_
    simp (disch := omega) only [seval, go_sem, h2, h4, h5, h16, h17]
    repeat (refine ⟨by omega, ?_⟩)
    refine c_bits_RotateLeft32 ?_
    simp (disch := omega) only [seval, go_sem, h2, h4, h5, h16, h17]
    repeat (refine ⟨by omega, ?_⟩)
    refine c_bits_RotateLeft32 ?_
    simp (disch := omega) only [seval, go_sem, h2, h4, h5, h16, h17]
    repeat (refine ⟨by omega, ?_⟩)
    refine hK11 _ _ ?_; try (clear hK11; clear K11)
    refine TWp.sr fun K12 hK12 => ?_
    simp (disch := omega) only [seval, go_sem, h2, h4, h5, h16, h17]
    repeat (refine ⟨by omega, ?_⟩)
    refine hK12 _ _ ?_; try (clear hK12; clear K12)
    refine TWp.sd [(0, 0), (1, 0), (2, 2)] follows (by kernel_rfl) fun K13 hK13 => ?_
    simp (disch := omega) only [seval, go_sem, h2, h4, h5, h16, h17]
    repeat (refine ⟨by omega, ?_⟩)
    refine hK13 _ _ ?_; try (clear hK13; clear K13)
    refine TWp.sr fun K14 hK14 => ?_
    simp (disch := omega) only [seval, go_sem, h2, h4, h5, h16, h17]
    repeat (refine ⟨by omega, ?_⟩)
    refine hK14 _ _ ?_; try (clear hK14; clear K14)
    refine TWp.rk fun K15 hK15 => ?_
    simp (disch := omega) only [seval, go_sem, h2, h4, h5, h16, h17]
    repeat (refine ⟨by omega, ?_⟩)
    refine hK15 _ _ ?_; try (clear hK15; clear K15)
    refine hK6 _ _ ?_; try (clear hK6; clear K6)
    refine TWp.rk fun K16 hK16 => ?_
    simp (disch := omega) only [seval, go_sem, h2, h4, h5, h16, h17]
    repeat (refine ⟨by omega, ?_⟩)
    refine hK16 _ _ ?_; try (clear hK16; clear K16)
    subst hs
    refine ⟨n - 1, by omega, i + 1, _, by omega, rfl, turnUpto_len p h hh (i + 1), h2, h4, h5, h16, rfl, ?_⟩
    rfl
  · try (replace hb := of_decide_eq_false hb)
    refine TWp.exit ?_
    refine hK2 _ _ ?_; try (clear hK2; clear K2)
    refine TWp.seq_k fun K17 hK17 => ?_
    refine TWp.sr fun K18 hK18 => ?_
    simp (disch := omega) only [seval, go_sem, h2, h4, h5, h16, h17]
    repeat (refine ⟨by omega, ?_⟩)
    refine hK18 _ _ ?_; try (clear hK18; clear K18)
    refine TWp.block ?_
    refine TWp.loop (fun n T S' => ∃ i hs, n + i = 8 ∧ hs = addUpto h s i ∧ hs.length = 8 ∧ T 2 = .ptr S.n 0 ∧ T 4 = .ptr (S.n + 1) 0 ∧ T 5 = .ptr (S.n + 2) 0 ∧ T 99 = .lit (.int .i64 (i : Int)) ∧ S' = ((S.push (.cells 221 (dW hs))).push (.cells 221 (dW z8))).push (.cells 221 (dW s))) (8) ?_ ?_
    · exact ⟨0, _, rfl, rfl, hh, h2, h4, h5, rfl, rfl⟩
    rintro n T S' ⟨i2, hs2, hm2, hhs, hsl2, h2, h4, h5, h99, rfl⟩
    refine TWp.sr fun K19 hK19 => ?_
    simp (disch := omega) only [seval, go_sem, h2, h4, h5, h99]
    repeat (refine ⟨by omega, ?_⟩)
    refine hK19 _ _ ?_; try (clear hK19; clear K19)
    refine TWp.seq_k fun K20 hK20 => ?_
    refine TWp.cond rfl (fun hb => ?_) (fun hb => ?_)
    · try (replace hb := of_decide_eq_true hb)
      refine TWp.skip ?_
      refine hK20 _ _ ?_; try (clear hK20; clear K20)
      refine TWp.seq_k fun K21 hK21 => ?_
      refine TWp.block ?_
      refine TWp.sr fun K22 hK22 => ?_
      simp (disch := omega) only [seval, go_sem, h2, h4, h5, h99]
      repeat (refine ⟨by omega, ?_⟩)
      refine hK22 _ _ ?_; try (clear hK22; clear K22)
      refine TWp.dk [(0, 0), (1, 0), (2, 0), (3, 0), (4, 0), (5, 0), (6, 0), (7, 0), (8, 2)] follows (by kernel_rfl) fun K23 hK23 => ?_
      simp (disch := omega) only [seval, go_sem, h2, h4, h5, h99]
      repeat (refine ⟨by omega, ?_⟩)
      refine hK23 _ _ ?_; try (clear hK23; clear K23)
      refine hK21 _ _ ?_; try (clear hK21; clear K21)
      refine TWp.rk fun K24 hK24 => ?_
      simp (disch := omega) only [seval, go_sem, h2, h4, h5, h99]
      repeat (refine ⟨by omega, ?_⟩)
      refine hK24 _ _ ?_; try (clear hK24; clear K24)
      subst hhs
      refine ⟨n - 1, by omega, i2 + 1, _, by omega, rfl, addUpto_len h s hh (i2 + 1), h2, h4, h5, rfl, ?_⟩
      rfl
    · try (replace hb := of_decide_eq_false hb)
      refine TWp.exit ?_
      refine hK17 _ _ ?_; try (clear hK17; clear K17)
      refine TWp.sr fun K25 hK25 => ?_
      simp (disch := omega) only [seval, go_sem, h2, h4, h5, h99]
      repeat (refine ⟨by omega, ?_⟩)
      refine hK25 _ _ ?_; try (clear hK25; clear K25)
      have hi2 : i2 = 8 := by omega
      have hi : i = 64 := by omega
      subst hi2 hi
      refine TWp.ret ⟨.inr rfl, [.agg (dW hs2)], ⟨resCell h4 ti221 (e := 221) ?_ rfl ?_, trivial⟩, by rw [hhs, hs]; rfl, ?_⟩
      · rw [push_sel, sel_ne (by simp only [TS.push_n]; omega), push_sel, sel_eq (by simp only [TS.push_n])]
      · rw [dW_len]; exact hsl2
      · exact ((Keep.push S _).push' _).push' _
theorem c_hash_turn {S : TS} {g : Tag} {h : List (BitVec 32)} {p : List (BitVec 8)} {K : TV → TS → Prop} (hK : K (.agg (dW (turn h p))) S) (hh : h.length = 8 := by omega) (hp : p.length = 64 := by omega) : TCall env 175 [.agg (dW h), .sl g 1 (dB p)] S K :=
  (TCall.pure (c_hash_turn_ok S g h p hh hp) (ren_dW _ _ _)).mono fun t S' ⟨h1, h2⟩ => by rw [h1, h2]; exact hK
theorem c_hash_padded {S : TS} {g : Tag} {p : List (BitVec 8)} {K : TV → TS → Prop} (hK : K (.sl (.own S.n) 1 (dB (padding p))) (S.push .lin)) (hp : p.length ≤ 1000000 := by omega) : TCall env 174 [.sl g 1 (dB p)] S K :=
  (padded_ok S g p hp).row.mono fun t S' ⟨h1, h2⟩ => by rw [h1, h2]; exact hK
end Go.Proofs.YtlljknmojafkoaaGreatDoor
namespace Go.Proofs.YtlljknmojafkoaaGreatDoor
open Go.RowKit TL
theorem turn_len (h : List (BitVec 32)) (p : List (BitVec 8)) (hh : h.length = 8) : (turn h p).length = 8 := addUpto_len _ _ hh 8
def sumN : Nat → List (BitVec 32) → List (BitVec 8) → List (BitVec 32)
  | 0, h, _ => h
  | n + 1, h, q => sumN n (turn h (q.take 64)) (q.drop 64)
def wordB (x : BitVec 32) : List (BitVec 8) := [(x >>> 24).setWidth 8, (x >>> 16).setWidth 8, (x >>> 8).setWidth 8, x.setWidth 8]
def wordsB (h : List (BitVec 32)) : List (BitVec 8) := h.flatMap wordB
theorem wordsB_len : ∀ (h : List (BitVec 32)), (wordsB h).length = 4 * h.length
  | [] => rfl
  | x :: h => by have := wordsB_len h; simp [wordsB, wordB] at this ⊢; omega
theorem wordsB_snoc (h : List (BitVec 32)) (i : Nat) (hi : i < h.length) : wordsB (h.take (i + 1)) = wordsB (h.take i) ++ wordB (h.getD i 0) := by
  rw [List.take_succ_eq_append_getElem hi, wordsB, List.flatMap_append]
  simp [wordsB, List.getD_eq_getElem?_getD, List.getElem?_eq_getElem hi]
theorem sumN_len : ∀ (n : Nat) (h : List (BitVec 32)) (q : List (BitVec 8)), h.length = 8 → (sumN n h q).length = 8
  | 0, h, _, hh => hh
  | n + 1, h, q, hh => sumN_len n _ _ (turn_len _ _ hh)
def sha (p : List (BitVec 8)) : List (BitVec 8) := wordsB (sumN ((padding p).length / 64) fW (padding p))
theorem lenBytes_len (x : BitVec 64) : ∀ n, (lenBytes x n).length = n
  | 0 => rfl
  | n + 1 => by simp [lenBytes, lenBytes_len x n]
theorem padding_len (p : List (BitVec 8)) : (padding p).length % 64 = 0 := by
  simp [padding, nought, lenBytes_len]; omega
theorem padding_max (p : List (BitVec 8)) : (padding p).length ≤ p.length + 200 := by
  simp [padding, nought, lenBytes_len]; omega
theorem sha_len (p : List (BitVec 8)) : (sha p).length = 32 := by rw [sha, wordsB_len, sumN_len _ _ _ fW_len]
set_option maxRecDepth 8000 in
set_option maxHeartbeats 1000000 in
theorem c_hash_Sum_ok (S : TS) (g : Tag) (p : List (BitVec 8)) (hp : p.length ≤ 1000000) : TCall env 121 [.sl g 1 (dB p)] S fun r S' => ∃ k, r = .vs k 0 1 32 ∧ S.n ≤ k ∧ S'.objs k = .cells 5 (cellsD (dB (sha p))) ∧ Keep S S' := by
  have hz8 := z8_len
  have hf8 := fW_len
  have hpl := padding_len p
  refine TCall.of 40 [.tmp 2] Tryz.func121 rfl rfl rfl rfl (by kernel_rfl) rfl ?_
  refine TWp.sr fun K0 hK0 => ?_
  simp -implicitDefEqProofs (disch := omega) only [seval, go_sem]
  repeat (refine ⟨by omega, ?_⟩)
  refine hK0 _ _ ?_; try (clear hK0; clear K0)
  refine TWp.sr fun K1 hK1 => ?_
  simp -implicitDefEqProofs (disch := omega) only [seval, go_sem]
  repeat (refine ⟨by omega, ?_⟩)
  refine hK1 _ _ ?_; try (clear hK1; clear K1)
  refine TWp.seq_k fun K2 hK2 => ?_
  refine TWp.sr fun K3 hK3 => ?_
  simp -implicitDefEqProofs (disch := omega) only [seval, go_sem]
  repeat (refine ⟨by omega, ?_⟩)
  refine c_hash_padded ?_
  simp -implicitDefEqProofs (disch := omega) only [seval, go_sem]
  repeat (refine ⟨by omega, ?_⟩)
  refine hK3 _ _ ?_; try (clear hK3; clear K3)
  refine TWp.block ?_
  refine TWp.loop (fun n T S' => ∃ h q g', q.length = 64 * n ∧ sumN n h q = sumN ((padding p).length / 64) fW (padding p) ∧ h.length = 8 ∧ T 3 = .ptr S.n 0 ∧ T 4 = .sl g' 1 (dB q) ∧ S' = (S.push (.cells 221 (dW h))).push .lin) ((padding p).length / 64) ?_ ?_
  · exact ⟨_, _, _, by omega, rfl, fW_len, rfl, rfl, rfl⟩
  rintro n T S' ⟨h, q, g', hq, hsum, hh, h3, h4, rfl⟩
  have htl := turn_len h (q.take 64) hh
  have hdl : (q.take 64).length = min 64 q.length := List.length_take
  refine TWp.seq_k fun K4 hK4 => ?_
  refine TWp.sr fun K5 hK5 => ?_
  simp -implicitDefEqProofs (disch := omega) only [seval, go_sem, h3, h4]
  repeat (refine ⟨by omega, ?_⟩)
  refine hK5 _ _ ?_; try (clear hK5; clear K5)
  refine TWp.cond_k fun K6 hK6 => ?_
  simp -implicitDefEqProofs (disch := omega) only [seval, go_sem, h3, h4]
  refine hK6 _ (fun hb => ?_) (fun hb => ?_) <;> clear hK6 <;> clear K6
  · try (replace hb := of_decide_eq_true hb)
    refine TWp.skip ?_
    refine hK4 _ _ ?_; try (clear hK4; clear K4)
    refine TWp.seq_k fun K7 hK7 => ?_
    refine TWp.block ?_
    refine TWp.dk [(0, 0), (1, 0), (2, 0), (3, 2), (4, 2)] follows (by kernel_rfl) fun K8 hK8 => ?_
    simp -implicitDefEqProofs (disch := omega) only [seval, go_sem, h3, h4]
    repeat (refine ⟨by omega, ?_⟩)
    refine c_hash_turn ?_
    simp -implicitDefEqProofs (disch := omega) only [seval, go_sem, h3, h4]
    repeat (refine ⟨by omega, ?_⟩)
    refine hK8 _ _ ?_; try (clear hK8; clear K8)
    refine hK7 _ _ ?_; try (clear hK7; clear K7)
    refine TWp.rk fun K9 hK9 => ?_
    simp -implicitDefEqProofs (disch := omega) only [seval, go_sem, h3, h4]
    repeat (refine ⟨by omega, ?_⟩)
    refine hK9 _ _ ?_; try (clear hK9; clear K9)
    obtain ⟨n', rfl⟩ : ∃ n', n = n' + 1 := ⟨n - 1, by omega⟩
    refine ⟨n', by omega, turn h (q.take 64), q.drop 64, g', by simp [hq]; omega, hsum, htl, h3, rfl, rfl⟩
  · try (replace hb := of_decide_eq_false hb)
    obtain rfl : n = 0 := by omega
    refine TWp.exit ?_
    refine hK2 _ _ ?_; try (clear hK2; clear K2)
    refine TWp.sr fun K10 hK10 => ?_
    simp -implicitDefEqProofs (disch := omega) only [seval, go_sem, h3, h4]
    repeat (refine ⟨by omega, ?_⟩)
    refine hK10 _ _ ?_; try (clear hK10; clear K10)
    refine TWp.seq_k fun K11 hK11 => ?_
    refine TWp.sr fun K12 hK12 => ?_
    simp -implicitDefEqProofs (disch := omega) only [seval, go_sem, h3, h4]
    repeat (refine ⟨by omega, ?_⟩)
    refine hK12 _ _ ?_; try (clear hK12; clear K12)
    refine TWp.block ?_
    refine TWp.asBuf 5 5 1 rfl ?_
    simp only [TS.push_n]
    refine TWp.loop (fun n T S' => ∃ i k, n + i = 8 ∧ T 20 = .agg (dW h) ∧ T 21 = .lit (.int .i64 (i : Int)) ∧ T 5 = .vs k 0 1 (4 * i) ∧ S'.objs k = .cells 5 (cellsD (dB (wordsB (h.take i)))) ∧ S.n ≤ k ∧ Keep S S') (8) ?_ ?_
    · exact ⟨0, _, rfl, rfl, rfl, rfl, push_self _ _, by omega, (((Keep.push S _).push' _).push' _)⟩
    rintro n T S' ⟨i, k, hm2, h20, h21, h5, ho, hk, hkeep⟩
    have hwl := wordsB_len (h.take i)
    have hil : (h.take i).length = min i h.length := List.length_take
    refine TWp.sr fun K13 hK13 => ?_
    simp -implicitDefEqProofs (disch := omega) only [seval, go_sem, h20, h21, h5, ho]
    repeat (refine ⟨by omega, ?_⟩)
    refine hK13 _ _ ?_; try (clear hK13; clear K13)
    refine TWp.seq_k fun K14 hK14 => ?_
    refine TWp.cond_k fun K15 hK15 => ?_
    simp -implicitDefEqProofs (disch := omega) only [seval, go_sem, h20, h21, h5, ho]
    refine hK15 _ (fun hb => ?_) (fun hb => ?_) <;> clear hK15 <;> clear K15
    · try (replace hb := of_decide_eq_true hb)
      refine TWp.skip ?_
      refine hK14 _ _ ?_; try (clear hK14; clear K14)
      refine TWp.seq_k fun K16 hK16 => ?_
      refine TWp.block ?_
      refine TWp.sr fun K17 hK17 => ?_
      simp -implicitDefEqProofs (disch := omega) only [seval, go_sem, h20, h21, h5, ho]
      repeat (refine ⟨by omega, ?_⟩)
      refine hK17 _ _ ?_; try (clear hK17; clear K17)
      refine TWp.rk fun K18 hK18 => ?_
      simp -implicitDefEqProofs (disch := omega) only [seval, go_sem, h20, h21, h5, ho]
      repeat (refine ⟨by omega, ?_⟩)
      refine hK18 _ _ ?_; try (clear hK18; clear K18)
      refine hK16 _ _ ?_; try (clear hK16; clear K16)
      refine TWp.rk fun K19 hK19 => ?_
      simp -implicitDefEqProofs (disch := omega) only [seval, go_sem, h20, h21, h5, ho]
      repeat (refine ⟨by omega, ?_⟩)
      refine hK19 _ _ ?_; try (clear hK19; clear K19)
      refine ⟨n - 1, by omega, i + 1, S'.n, by omega, h20, rfl, rfl, ?_, hkeep.1, (hkeep.set hk _).push' _⟩
      refine (push_self (S'.set k .gone) _).trans ?_
      rw [wordsB_snoc h i (by omega), dB_app, cellsD_app]
      rfl
    · try (replace hb := of_decide_eq_false hb)
      refine TWp.exit ?_
      refine hK11 _ _ ?_; try (clear hK11; clear K11)
      refine TWp.sr fun K20 hK20 => ?_
      simp -implicitDefEqProofs (disch := omega) only [seval, go_sem, h20, h21, h5, ho]
      repeat (refine ⟨by omega, ?_⟩)
      refine hK20 _ _ ?_; try (clear hK20; clear K20)
      have hi : i = 8 := by omega
      subst hi
      have hht : h.take 8 = h := List.take_of_length_le (by omega)
      refine TWp.ret ⟨.inr rfl, [_], ⟨rfl, trivial⟩, k, rfl, hk, ?_, hkeep⟩
      rw [sha, ← hsum]
      rw [hht] at ho
      exact ho
theorem c_hash_Sum {S : TS} {g : Tag} {p : List (BitVec 8)} {K : TV → TS → Prop} (hK : K (.sl (.own S.n) 1 (dB (sha p))) (S.push .lin)) (hp : p.length ≤ 1000000 := by omega) : TCall env 121 [.sl g 1 (dB p)] S K :=
  (TCall.freeze (c_hash_Sum_ok S g p hp) (by rw [cB_len, sha_len]) (fun S' id h => srcD_F (fun x : BitVec 8 => w8 x) (fun _ => rfl) h (sha_len p).symm (by decide))).mono fun t S' ⟨h1, h2⟩ => by rw [h1, h2]; exact hK
end Go.Proofs.YtlljknmojafkoaaGreatDoor
namespace Go.Proofs.YtlljknmojafkoaaGreatDoor
open Go.RowKit TL
theorem take_succ_getD {α : Type} {a : List α} {i : Nat} (d : α) (h : i < a.length) : a.take (i + 1) = a.take i ++ [a.getD i d] := by
  rw [List.take_succ_eq_append_getElem h]
  simp [List.getD_eq_getElem?_getD, List.getElem?_eq_getElem h]
def tr (x : BitVec 32) (n : Nat) : BitVec 32 := x >>> n ||| x <<< (32 - n)
set_option maxRecDepth 8000 in
theorem c_godownref02_turned_ok (S : TS) (x : BitVec 32) (n : Nat) (hn : n ≤ 32) : TCall env 107 [.lit (w32 x), .lit (.int .i64 (n : Int))] S fun r S' => r = .lit (w32 (tr x n)) ∧ S' = S := by
  refine TCall.of 13 [.tmp 4] Tryz.func107 rfl rfl rfl rfl (by kernel_rfl) rfl ?_
  refine TWp.sr fun K0 hK0 => ?_
  simp -implicitDefEqProofs (disch := omega) only [seval, go_sem]
  repeat (refine ⟨by first | omega | exact Keep.push _ _ | exact KpL.push _ _, ?_⟩)
  refine hK0 _ _ ?_; try (clear hK0; clear K0)
  refine TWp.sd [(0, 0), (1, 0), (2, 0), (3, 0), (4, 0), (5, 0), (6, 0), (7, 0), (8, 0)] follows (by kernel_rfl) fun K1 hK1 => ?_
  simp -implicitDefEqProofs (disch := omega) only [seval, go_sem]
  repeat (refine ⟨by first | omega | exact Keep.push _ _ | exact KpL.push _ _, ?_⟩)
  refine hK1 _ _ ?_; try (clear hK1; clear K1)
  exact TWp.ret ⟨.inr rfl, [_], ⟨rfl, trivial⟩, rfl, rfl⟩
theorem c_godownref02_turned {S : TS} {x : BitVec 32} {n : Nat} {K : TV → TS → Prop} (hK : K (.lit (w32 (tr x (no_index (OfNat.ofNat n))))) S) (hn : OfNat.ofNat n ≤ 32 := by omega) : TCall env 107 [.lit (w32 x), .lit (.int .i64 (OfNat.ofNat n : Int))] S K :=
  (c_godownref02_turned_ok S x (OfNat.ofNat n) hn).mono fun t S' ⟨h1, h2⟩ => by rw [h1, h2]; exact hK
end Go.Proofs.YtlljknmojafkoaaGreatDoor
namespace Go.Proofs.YtlljknmojafkoaaGreatDoor
open Go.RowKit TL
def wideH (a b : BitVec 64) : BitVec 64 :=
  let mid := (a >>> 32) * (b % 4294967296#64) + ((a % 4294967296#64) * (b % 4294967296#64)) >>> 32
  (a >>> 32) * (b >>> 32) + mid >>> 32 + (mid % 4294967296#64 + (a % 4294967296#64) * (b >>> 32)) >>> 32
def ltI (a b : BitVec 64) : Bool := decide ((a.toNat : Int) < (b.toNat : Int))
def eqI (a b : BitVec 64) : Bool := decide ((a.toNat : Int) = (b.toNat : Int))
def zI (a : BitVec 64) : Bool := decide ((a.toNat : Int) = 0)
set_option maxRecDepth 8000 in
theorem c_godownref02_wide_ok (S : TS) (a b : BitVec 64) : TCall env 238 [.lit (w64 a), .lit (w64 b)] S fun r S' => r = .tup [.lit (w64 (wideH a b)), .lit (w64 (a * b))] ∧ S' = S := by
  refine TCall.of 46 [.tmp 4, .tmp 5] Tryz.func238 rfl rfl rfl rfl (by kernel_rfl) rfl ?_
  refine TWp.sr fun K0 hK0 => ?_
  simp (disch := omega) only [seval, go_sem]
  repeat (refine ⟨by omega, ?_⟩)
  refine hK0 _ _ ?_; try (clear hK0; clear K0)
  refine TWp.sr fun K1 hK1 => ?_
  simp (disch := omega) only [seval, go_sem]
  repeat (refine ⟨by omega, ?_⟩)
  refine hK1 _ _ ?_; try (clear hK1; clear K1)
  refine TWp.sr fun K2 hK2 => ?_
  simp (disch := omega) only [seval, go_sem]
  repeat (refine ⟨by omega, ?_⟩)
  refine hK2 _ _ ?_; try (clear hK2; clear K2)
  refine TWp.sr fun K3 hK3 => ?_
  simp (disch := omega) only [seval, go_sem]
  repeat (refine ⟨by omega, ?_⟩)
  refine hK3 _ _ ?_; try (clear hK3; clear K3)
  refine TWp.sr fun K4 hK4 => ?_
  simp (disch := omega) only [seval, go_sem]
  repeat (refine ⟨by omega, ?_⟩)
  refine hK4 _ _ ?_; try (clear hK4; clear K4)
  exact TWp.ret ⟨.inr rfl, [_, _], ⟨rfl, rfl, trivial⟩, rfl, rfl⟩
theorem c_godownref02_wide {S : TS} {a b : BitVec 64} {K : TV → TS → Prop} (hK : K (.tup [.lit (w64 (wideH a b)), .lit (w64 (a * b))]) S) : TCall env 238 [.lit (w64 a), .lit (w64 b)] S K :=
  (c_godownref02_wide_ok S a b).mono fun t S' ⟨h1, h2⟩ => by rw [h1, h2]; exact hK
def squareF (a n : BitVec 64) : Bool := ltI (wideH a a) n || (eqI (wideH a a) n && zI (a * a))
set_option maxRecDepth 8000 in
theorem c_godownref02_square_ok (S : TS) (a n : BitVec 64) : TCall env 195 [.lit (w64 a), .lit (w64 n)] S fun r S' => r = .lit (.bool (squareF a n)) ∧ S' = S := by
  refine TCall.of 25 [.tmp 4] Tryz.func195 rfl rfl rfl rfl (by kernel_rfl) rfl ?_
  refine TWp.sr fun K0 hK0 => ?_
  simp (disch := omega) only [seval, go_sem]
  repeat (refine ⟨by omega, ?_⟩)
  refine hK0 _ _ ?_; try (clear hK0; clear K0)
  refine TWp.sr fun K1 hK1 => ?_
  simp (disch := omega) only [seval, go_sem]
  repeat (refine ⟨by omega, ?_⟩)
  refine c_godownref02_wide ?_
  simp (disch := omega) only [seval, go_sem]
  repeat (refine ⟨by omega, ?_⟩)
  refine hK1 _ _ ?_; try (clear hK1; clear K1)
  refine TWp.sr fun K2 hK2 => ?_
  simp (disch := omega) only [seval, go_sem]
  repeat' (first | refine ⟨by omega, ?_⟩ | (refine brT_split (fun hb => ?_) (fun hb => ?_) <;> simp (disch := omega) only [seval, go_sem, hb]))
  all_goals
    refine hK2 _ _ ?_; try (clear hK2; clear K2)
    all_goals (refine TWp.ret ⟨.inr rfl, [_], ⟨rfl, trivial⟩, ?_, rfl⟩)
    all_goals (show TV.lit (.bool _) = _)
    all_goals (simp only [squareF, ltI, eqI, zI, decide_eq_true_eq, decide_true, decide_false, if_true, if_false, Bool.false_eq_true, Bool.true_or, Bool.false_or, Bool.true_and, Bool.false_and, *])
theorem c_godownref02_square {S : TS} {a n : BitVec 64} {K : TV → TS → Prop} (hK : K (.lit (.bool (squareF a n))) S) : TCall env 195 [.lit (w64 a), .lit (w64 n)] S K :=
  (c_godownref02_square_ok S a n).mono fun t S' ⟨h1, h2⟩ => by rw [h1, h2]; exact hK
def cubeF (a n : BitVec 64) : Bool :=
  let hi := wideH a a
  let lo := a * a
  let x := wideH lo a
  let y := lo * a
  let w := hi * a
  let mid := w + x
  let z := if ltI mid w then wideH hi a + 1#64 else wideH hi a
  let top := z <<< 32 ||| mid >>> 32
  let rest := mid % 4294967296#64 ||| y
  ltI top n || (eqI top n && zI rest)
set_option maxRecDepth 8000 in
theorem c_godownref02_cube_ok (S : TS) (a n : BitVec 64) : TCall env 194 [.lit (w64 a), .lit (w64 n)] S fun r S' => r = .lit (.bool (cubeF a n)) ∧ S' = S := by
  refine TCall.of 61 [.tmp 4] Tryz.func194 rfl rfl rfl rfl (by kernel_rfl) rfl ?_
  refine TWp.sr fun K0 hK0 => ?_
  simp (disch := omega) only [seval, go_sem]
  repeat (refine ⟨by omega, ?_⟩)
  refine hK0 _ _ ?_; try (clear hK0; clear K0)
  refine TWp.sr fun K1 hK1 => ?_
  simp (disch := omega) only [seval, go_sem]
  repeat (refine ⟨by omega, ?_⟩)
  refine c_godownref02_wide ?_
  simp (disch := omega) only [seval, go_sem]
  repeat (refine ⟨by omega, ?_⟩)
  refine hK1 _ _ ?_; try (clear hK1; clear K1)
  refine TWp.sr fun K2 hK2 => ?_
  simp (disch := omega) only [seval, go_sem]
  repeat (refine ⟨by omega, ?_⟩)
  refine c_godownref02_wide ?_
  simp (disch := omega) only [seval, go_sem]
  repeat (refine ⟨by omega, ?_⟩)
  refine hK2 _ _ ?_; try (clear hK2; clear K2)
  refine TWp.sr fun K3 hK3 => ?_
  simp (disch := omega) only [seval, go_sem]
  repeat (refine ⟨by omega, ?_⟩)
  refine c_godownref02_wide ?_
  simp (disch := omega) only [seval, go_sem]
  repeat (refine ⟨by omega, ?_⟩)
  refine hK3 _ _ ?_; try (clear hK3; clear K3)
  refine TWp.sr fun K4 hK4 => ?_
  simp (disch := omega) only [seval, go_sem]
  repeat (refine ⟨by omega, ?_⟩)
  refine hK4 _ _ ?_; try (clear hK4; clear K4)
  refine TWp.seq_k fun K5 hK5 => ?_
  refine TWp.sr fun K6 hK6 => ?_
  simp (disch := omega) only [seval, go_sem]
  repeat (refine ⟨by omega, ?_⟩)
  refine hK6 _ _ ?_; try (clear hK6; clear K6)
  refine TWp.cond rfl (fun hb => ?_) (fun hb => ?_)
  · try (replace hb := of_decide_eq_true hb)
    refine TWp.rk fun K7 hK7 => ?_
    simp (disch := omega) only [seval, go_sem]
    repeat (refine ⟨by omega, ?_⟩)
    refine hK7 _ _ ?_; try (clear hK7; clear K7)
    refine hK5 _ _ ?_; try (clear hK5; clear K5)
    refine TWp.sr fun K8 hK8 => ?_
    simp (disch := omega) only [seval, go_sem]
    repeat (refine ⟨by omega, ?_⟩)
    refine hK8 _ _ ?_; try (clear hK8; clear K8)
    refine TWp.sr fun K9 hK9 => ?_
    simp (disch := omega) only [seval, go_sem]
    repeat (refine ⟨by omega, ?_⟩)
    refine hK9 _ _ ?_; try (clear hK9; clear K9)
    refine TWp.sr fun K10 hK10 => ?_
    simp (disch := omega) only [seval, go_sem]
    repeat' (first | refine ⟨by omega, ?_⟩ | (refine brT_split (fun hb => ?_) (fun hb => ?_) <;> simp (disch := omega) only [seval, go_sem, hb]))
    all_goals
      refine hK10 _ _ ?_; try (clear hK10; clear K10)
      all_goals (refine TWp.ret ⟨.inr rfl, [_], ⟨rfl, trivial⟩, ?_, rfl⟩)
      all_goals (show TV.lit (.bool _) = _)
      all_goals (simp only [cubeF, ltI, eqI, zI, decide_eq_true_eq, decide_true, decide_false, if_true, if_false, Bool.false_eq_true, Bool.true_or, Bool.false_or, Bool.true_and, Bool.false_and, *])
  · try (replace hb := of_decide_eq_false hb)
    refine TWp.skip ?_
    refine hK5 _ _ ?_; try (clear hK5; clear K5)
    refine TWp.sr fun K11 hK11 => ?_
    simp (disch := omega) only [seval, go_sem]
    repeat (refine ⟨by omega, ?_⟩)
    refine hK11 _ _ ?_; try (clear hK11; clear K11)
    refine TWp.sr fun K12 hK12 => ?_
    simp (disch := omega) only [seval, go_sem]
    repeat (refine ⟨by omega, ?_⟩)
    refine hK12 _ _ ?_; try (clear hK12; clear K12)
    refine TWp.sr fun K13 hK13 => ?_
    simp (disch := omega) only [seval, go_sem]
    repeat' (first | refine ⟨by omega, ?_⟩ | (refine brT_split (fun hb => ?_) (fun hb => ?_) <;> simp (disch := omega) only [seval, go_sem, hb]))
    all_goals
      refine hK13 _ _ ?_; try (clear hK13; clear K13)
      all_goals (refine TWp.ret ⟨.inr rfl, [_], ⟨rfl, trivial⟩, ?_, rfl⟩)
      all_goals (show TV.lit (.bool _) = _)
      all_goals (simp only [cubeF, ltI, eqI, zI, decide_eq_true_eq, decide_true, decide_false, if_true, if_false, Bool.false_eq_true, Bool.true_or, Bool.false_or, Bool.true_and, Bool.false_and, *])
theorem c_godownref02_cube {S : TS} {a n : BitVec 64} {K : TV → TS → Prop} (hK : K (.lit (.bool (cubeF a n))) S) : TCall env 194 [.lit (w64 a), .lit (w64 n)] S K :=
  (c_godownref02_cube_ok S a n).mono fun t S' ⟨h1, h2⟩ => by rw [h1, h2]; exact hK
def rootUpto (f : BitVec 64 → BitVec 64 → Bool) (x : BitVec 64) : Nat → BitVec 64 → BitVec 64
  | 0, a => a
  | k + 1, a => rootUpto f x k (if f (a + 1#64 <<< k) x = true then a + 1#64 <<< k else a)
def rootF (f : BitVec 64 → BitVec 64 → Bool) (x : BitVec 64) : BitVec 32 := BitVec.setWidth 32 (rootUpto f x 37 0 % 4294967296#64)
set_option maxRecDepth 8000 in
theorem c_godownref02_root_cube_ok (S : TS) (x : BitVec 64) : TCall env 151 [.lit (w64 x), .lit (.bool true)] S fun r S' => r = .lit (w32 (rootF cubeF x)) ∧ S' = S := by
  refine TCall.of 35 [.tmp 4] Tryz.func151 rfl rfl rfl rfl (by kernel_rfl) rfl ?_
  refine TWp.sr fun K0 hK0 => ?_
  simp (disch := omega) only [seval, go_sem]
  repeat (refine ⟨by omega, ?_⟩)
  refine hK0 _ _ ?_; try (clear hK0; clear K0)
  refine TWp.sr fun K1 hK1 => ?_
  simp (disch := omega) only [seval, go_sem]
  repeat (refine ⟨by omega, ?_⟩)
  refine hK1 _ _ ?_; try (clear hK1; clear K1)
  refine TWp.seq_k fun K2 hK2 => ?_
  refine TWp.sr fun K3 hK3 => ?_
  simp (disch := omega) only [seval, go_sem]
  repeat (refine ⟨by omega, ?_⟩)
  refine hK3 _ _ ?_; try (clear hK3; clear K3)
  refine TWp.block ?_
  refine TWp.loop (fun n T S' => ∃ a, rootUpto cubeF x n a = rootUpto cubeF x 37 0 ∧ n ≤ 37 ∧ T 0 = .lit (w64 x) ∧ T 1 = .lit (.bool true) ∧ T 5 = .lit (w64 a) ∧ T 6 = .lit (.int .i64 ((n : Int) - 1)) ∧ S' = S) (37) ?_ ?_
  · exact ⟨0, rfl, by omega, rfl, rfl, rfl, rfl, rfl⟩
  rintro n T S' ⟨a, hr, hn, h0, h1, h5, h6, rfl⟩
  refine TWp.seq_k fun K4 hK4 => ?_
  refine TWp.sr fun K5 hK5 => ?_
  simp (disch := omega) only [seval, go_sem, h0, h1, h5, h6]
  repeat (refine ⟨by omega, ?_⟩)
  refine hK5 _ _ ?_; try (clear hK5; clear K5)
  refine TWp.cond rfl (fun hb => ?_) (fun hb => ?_)
  · try (replace hb := of_decide_eq_true hb)
    refine TWp.skip ?_
    refine hK4 _ _ ?_; try (clear hK4; clear K4)
    refine TWp.seq_k fun K6 hK6 => ?_
    refine TWp.block ?_
    refine TWp.sr fun K7 hK7 => ?_
    simp (disch := omega) only [seval, go_sem, h0, h1, h5, h6]
    repeat (refine ⟨by omega, ?_⟩)
    refine hK7 _ _ ?_; try (clear hK7; clear K7)
    refine TWp.sr fun K8 hK8 => ?_
    simp (disch := omega) only [seval, go_sem, h0, h1, h5, h6]
    repeat (refine ⟨by omega, ?_⟩)
    refine c_godownref02_cube ?_
    simp (disch := omega) only [seval, go_sem, h0, h1, h5, h6]
    repeat' (first | refine ⟨by omega, ?_⟩ | (refine brT_split (fun hb => ?_) (fun hb => ?_) <;> simp (disch := omega) only [seval, go_sem, hb, h0, h1, h5, h6]))
    all_goals
      refine hK8 _ _ ?_; try (clear hK8; clear K8)
      refine TWp.cond rfl (fun hb => ?_) (fun hb => ?_)
      · try (replace hb := of_decide_eq_true hb)
        try (exact absurd hb (by decide))
        all_goals
          refine TWp.rk fun K9 hK9 => ?_
          simp (disch := omega) only [seval, go_sem, h0, h1, h5, h6]
          repeat (refine ⟨by omega, ?_⟩)
          refine hK9 _ _ ?_; try (clear hK9; clear K9)
          refine hK6 _ _ ?_; try (clear hK6; clear K6)
          refine TWp.rk fun K10 hK10 => ?_
          simp (disch := omega) only [seval, go_sem, h0, h1, h5, h6]
          repeat (refine ⟨by omega, ?_⟩)
          refine hK10 _ _ ?_; try (clear hK10; clear K10)
          obtain ⟨m, rfl⟩ : ∃ m, n = m + 1 := ⟨n - 1, by omega⟩
          refine ⟨m, by omega, _, ?_, by omega, h0, h1, rfl, ?_, rfl⟩
          · rw [← hr, rootUpto, if_pos (by assumption)]; rfl
          · simp [upd]
      · try (replace hb := of_decide_eq_false hb)
        try (exact absurd hb (by decide))
        all_goals
          refine TWp.skip ?_
          refine hK6 _ _ ?_; try (clear hK6; clear K6)
          refine TWp.rk fun K11 hK11 => ?_
          simp (disch := omega) only [seval, go_sem, h0, h1, h5, h6]
          repeat (refine ⟨by omega, ?_⟩)
          refine hK11 _ _ ?_; try (clear hK11; clear K11)
          obtain ⟨m, rfl⟩ : ∃ m, n = m + 1 := ⟨n - 1, by omega⟩
          refine ⟨m, by omega, _, ?_, by omega, h0, h1, h5, ?_, rfl⟩
          · rw [← hr, rootUpto, if_neg (by rw [Bool.not_eq_true]; assumption)]
          · simp [upd]
  · try (replace hb := of_decide_eq_false hb)
    refine TWp.exit ?_
    refine hK2 _ _ ?_; try (clear hK2; clear K2)
    refine TWp.sr fun K12 hK12 => ?_
    simp (disch := omega) only [seval, go_sem, h0, h1, h5, h6]
    repeat (refine ⟨by omega, ?_⟩)
    refine hK12 _ _ ?_; try (clear hK12; clear K12)
    obtain rfl : n = 0 := by omega
    refine TWp.ret ⟨.inr rfl, [_], ⟨rfl, trivial⟩, ?_, rfl⟩
    rw [rootF, ← hr]
    rfl
theorem c_godownref02_root_cube {S : TS} {x : BitVec 64} {K : TV → TS → Prop} (hK : K (.lit (w32 (rootF cubeF x))) S) : TCall env 151 [.lit (w64 x), .lit (.bool true)] S K :=
  (c_godownref02_root_cube_ok S x).mono fun t S' ⟨h1, h2⟩ => by rw [h1, h2]; exact hK
set_option maxRecDepth 8000 in
theorem c_godownref02_root_square_ok (S : TS) (x : BitVec 64) : TCall env 151 [.lit (w64 x), .lit (.bool false)] S fun r S' => r = .lit (w32 (rootF squareF x)) ∧ S' = S := by
  refine TCall.of 35 [.tmp 4] Tryz.func151 rfl rfl rfl rfl (by kernel_rfl) rfl ?_
  refine TWp.sr fun K0 hK0 => ?_
  simp (disch := omega) only [seval, go_sem]
  repeat (refine ⟨by omega, ?_⟩)
  refine hK0 _ _ ?_; try (clear hK0; clear K0)
  refine TWp.sr fun K1 hK1 => ?_
  simp (disch := omega) only [seval, go_sem]
  repeat (refine ⟨by omega, ?_⟩)
  refine hK1 _ _ ?_; try (clear hK1; clear K1)
  refine TWp.seq_k fun K2 hK2 => ?_
  refine TWp.sr fun K3 hK3 => ?_
  simp (disch := omega) only [seval, go_sem]
  repeat (refine ⟨by omega, ?_⟩)
  refine hK3 _ _ ?_; try (clear hK3; clear K3)
  refine TWp.block ?_
  refine TWp.loop (fun n T S' => ∃ a, rootUpto squareF x n a = rootUpto squareF x 37 0 ∧ n ≤ 37 ∧ T 0 = .lit (w64 x) ∧ T 1 = .lit (.bool false) ∧ T 5 = .lit (w64 a) ∧ T 6 = .lit (.int .i64 ((n : Int) - 1)) ∧ S' = S) (37) ?_ ?_
  · exact ⟨0, rfl, by omega, rfl, rfl, rfl, rfl, rfl⟩
  rintro n T S' ⟨a, hr, hn, h0, h1, h5, h6, rfl⟩
  refine TWp.seq_k fun K4 hK4 => ?_
  refine TWp.sr fun K5 hK5 => ?_
  simp (disch := omega) only [seval, go_sem, h0, h1, h5, h6]
  repeat (refine ⟨by omega, ?_⟩)
  refine hK5 _ _ ?_; try (clear hK5; clear K5)
  refine TWp.cond rfl (fun hb => ?_) (fun hb => ?_)
  · try (replace hb := of_decide_eq_true hb)
    refine TWp.skip ?_
    refine hK4 _ _ ?_; try (clear hK4; clear K4)
    refine TWp.seq_k fun K6 hK6 => ?_
    refine TWp.block ?_
    refine TWp.sr fun K7 hK7 => ?_
    simp (disch := omega) only [seval, go_sem, h0, h1, h5, h6]
    repeat (refine ⟨by omega, ?_⟩)
    refine hK7 _ _ ?_; try (clear hK7; clear K7)
    refine TWp.sr fun K8 hK8 => ?_
    simp (disch := omega) only [seval, go_sem, h0, h1, h5, h6]
    repeat (refine ⟨by omega, ?_⟩)
    refine c_godownref02_square ?_
    simp (disch := omega) only [seval, go_sem, h0, h1, h5, h6]
    repeat' (first | refine ⟨by omega, ?_⟩ | (refine brT_split (fun hb => ?_) (fun hb => ?_) <;> simp (disch := omega) only [seval, go_sem, hb, h0, h1, h5, h6]))
    all_goals
      refine hK8 _ _ ?_; try (clear hK8; clear K8)
      refine TWp.cond rfl (fun hb => ?_) (fun hb => ?_)
      · try (replace hb := of_decide_eq_true hb)
        try (exact absurd hb (by decide))
        all_goals
          refine TWp.rk fun K9 hK9 => ?_
          simp (disch := omega) only [seval, go_sem, h0, h1, h5, h6]
          repeat (refine ⟨by omega, ?_⟩)
          refine hK9 _ _ ?_; try (clear hK9; clear K9)
          refine hK6 _ _ ?_; try (clear hK6; clear K6)
          refine TWp.rk fun K10 hK10 => ?_
          simp (disch := omega) only [seval, go_sem, h0, h1, h5, h6]
          repeat (refine ⟨by omega, ?_⟩)
          refine hK10 _ _ ?_; try (clear hK10; clear K10)
          obtain ⟨m, rfl⟩ : ∃ m, n = m + 1 := ⟨n - 1, by omega⟩
          refine ⟨m, by omega, _, ?_, by omega, h0, h1, rfl, ?_, rfl⟩
          · rw [← hr, rootUpto, if_pos (by assumption)]; rfl
          · simp [upd]
      · try (replace hb := of_decide_eq_false hb)
        try (exact absurd hb (by decide))
        all_goals
          refine TWp.skip ?_
          refine hK6 _ _ ?_; try (clear hK6; clear K6)
          refine TWp.rk fun K11 hK11 => ?_
          simp (disch := omega) only [seval, go_sem, h0, h1, h5, h6]
          repeat (refine ⟨by omega, ?_⟩)
          refine hK11 _ _ ?_; try (clear hK11; clear K11)
          obtain ⟨m, rfl⟩ : ∃ m, n = m + 1 := ⟨n - 1, by omega⟩
          refine ⟨m, by omega, _, ?_, by omega, h0, h1, h5, ?_, rfl⟩
          · rw [← hr, rootUpto, if_neg (by rw [Bool.not_eq_true]; assumption)]
          · simp [upd]
  · try (replace hb := of_decide_eq_false hb)
    refine TWp.exit ?_
    refine hK2 _ _ ?_; try (clear hK2; clear K2)
    refine TWp.sr fun K12 hK12 => ?_
    simp (disch := omega) only [seval, go_sem, h0, h1, h5, h6]
    repeat (refine ⟨by omega, ?_⟩)
    refine hK12 _ _ ?_; try (clear hK12; clear K12)
    obtain rfl : n = 0 := by omega
    refine TWp.ret ⟨.inr rfl, [_], ⟨rfl, trivial⟩, ?_, rfl⟩
    rw [rootF, ← hr]
    rfl
theorem c_godownref02_root_square {S : TS} {x : BitVec 64} {K : TV → TS → Prop} (hK : K (.lit (w32 (rootF squareF x))) S) : TCall env 151 [.lit (w64 x), .lit (.bool false)] S K :=
  (c_godownref02_root_square_ok S x).mono fun t S' ⟨h1, h2⟩ => by rw [h1, h2]; exact hK
end Go.Proofs.YtlljknmojafkoaaGreatDoor
namespace Go.Proofs.YtlljknmojafkoaaGreatDoor
open Go.RowKit TL
def primeL : List Nat := [2, 3, 5, 7, 11, 13, 17, 19, 23, 29, 31, 37, 41, 43, 47, 53, 59, 61, 67, 71, 73, 79, 83, 89, 97, 101, 103, 107, 109, 113, 127, 131, 137, 139, 149, 151, 157, 163, 167, 173, 179, 181, 191, 193, 197, 199, 211, 223, 227, 229, 233, 239, 241, 251, 257, 263, 269, 271, 277, 281, 283, 293, 307, 311]
def primeB : List (BitVec 64) := primeL.map (BitVec.ofNat 64)
def cnt (k : Nat) : Nat := (primeL.filter fun y => decide (y < k + 2)).length
def pr (k : Nat) : List (BitVec 64) := primeB.take (cnt k)
def isT (x : BitVec 64) (l : List (BitVec 64)) : Bool := l.all fun y => decide (¬ ((x % y).toNat : Int) = 0)
theorem pr_step : ∀ k, k < 310 → pr (k + 1) = if isT (BitVec.ofNat 64 (k + 2)) (pr k) = true then pr k ++ [BitVec.ofNat 64 (k + 2)] else pr k := by decide +kernel
theorem pr_len : ∀ k, k < 310 → (pr k).length < 64 := by decide +kernel
theorem pr_all : pr 310 = primeB := by decide +kernel
theorem prB_pos : ∀ i, i < 64 → 0 < (primeB.getD i 0).toNat := by decide +kernel
theorem primeB_len : primeB.length = 64 := rfl
theorem pr_get (k i : Nat) (hi : i < (pr k).length) : (pr k).getD i 0 = primeB.getD i 0 := by
  unfold pr at hi ⊢
  rw [List.length_take] at hi
  simp only [List.getD_eq_getElem?_getD]
  rw [List.getElem?_take_of_lt (by omega)]
theorem pr_pos (k i : Nat) : i < (pr k).length → 0 < ((pr k).getD i 0#64).toNat := by
  intro hi
  have h1 := pr_get k i hi
  have h2 : (pr k).length ≤ 64 := by unfold pr; rw [List.length_take, primeB_len]; omega
  have h3 := prB_pos i (by omega)
  rw [show (0#64) = (0 : BitVec 64) from rfl, h1]; exact h3
theorem pr_lt (k : Nat) : k ≤ 310 → (pr k).length < 64 → k < 310 := by
  intro h1 h2
  rcases Nat.lt_or_ge k 310 with h | h
  · exact h
  · have : k = 310 := by omega
    subst this
    rw [pr_all] at h2
    exact absurd h2 (by decide)
theorem x_succ (k : Nat) : BitVec.ofNat 64 (k + 2) + 1#64 = BitVec.ofNat 64 (k + 1 + 2) := by
  apply BitVec.eq_of_toNat_eq; simp
theorem isT_snoc (x y : BitVec 64) (l : List (BitVec 64)) : isT x (l ++ [y]) = (isT x l && decide (¬ ((x % y).toNat : Int) = 0)) := by simp [isT]
set_option maxRecDepth 8000 in
theorem c_godownref02_primes_ok (S : TS) : TCall env 150 [.lit (.int .i64 64)] S fun r S' => ∃ t, r = .sl (.own t) 1 (dQ primeB) ∧ S.n ≤ t ∧ S'.objs t = .lin ∧ Keep S S' := by
  refine TCall.of 35 [.tmp 2] Tryz.func150 rfl rfl rfl rfl (by kernel_rfl) rfl ?_
  refine TWp.sr fun K0 hK0 => ?_
  simp (disch := omega) only [seval, go_sem]
  repeat (refine ⟨by omega, ?_⟩)
  refine hK0 _ _ ?_; try (clear hK0; clear K0)
  refine TWp.sr fun K1 hK1 => ?_
  simp (disch := omega) only [seval, go_sem]
  repeat (refine ⟨by omega, ?_⟩)
  refine hK1 _ _ ?_; try (clear hK1; clear K1)
  refine TWp.seq_k fun K2 hK2 => ?_
  refine TWp.sr fun K3 hK3 => ?_
  simp (disch := omega) only [seval, go_sem]
  repeat (refine ⟨by omega, ?_⟩)
  refine hK3 _ _ ?_; try (clear hK3; clear K3)
  refine TWp.block ?_
  refine TWp.asRow 3 1 rfl (.inl rfl) ?_
  refine TWp.loop (fun n T S' => ∃ k t, n + k = 310 ∧ T 0 = .lit (.int .i64 64) ∧ T 3 = .sl (.own t) 1 (dQ (pr k)) ∧ T 4 = .lit (w64 (BitVec.ofNat 64 (k + 2))) ∧ S'.objs t = .lin ∧ S.n ≤ t ∧ Keep S S') (310) ?_ ?_
  · exact ⟨0, _, rfl, rfl, rfl, rfl, push_self _ _, Nat.le_refl _, Keep.push S _⟩
  rintro n1 T S1 ⟨k, t, hn, h0, h3, h4, ho, ht, hkeep⟩
  refine TWp.seq_k fun K4 hK4 => ?_
  refine TWp.sr fun K5 hK5 => ?_
  simp (disch := omega) only [seval, go_sem, h0, h3, h4, ho]
  repeat (refine ⟨by omega, ?_⟩)
  refine hK5 _ _ ?_; try (clear hK5; clear K5)
  refine TWp.cond rfl (fun hb => ?_) (fun hb => ?_)
  · try (replace hb := of_decide_eq_true hb)
    refine TWp.skip ?_
    refine hK4 _ _ ?_; try (clear hK4; clear K4)
    refine TWp.seq_k fun K6 hK6 => ?_
    refine TWp.block ?_
    refine TWp.sr fun K7 hK7 => ?_
    simp (disch := omega) only [seval, go_sem, h0, h3, h4, ho]
    repeat (refine ⟨by omega, ?_⟩)
    refine hK7 _ _ ?_; try (clear hK7; clear K7)
    refine TWp.seq_k fun K8 hK8 => ?_
    refine TWp.sr fun K9 hK9 => ?_
    simp (disch := omega) only [seval, go_sem, h0, h3, h4, ho]
    repeat (refine ⟨by omega, ?_⟩)
    refine hK9 _ _ ?_; try (clear hK9; clear K9)
    refine TWp.block ?_
    refine TWp.loop (fun n T S' => ∃ i, n + i = (pr k).length ∧ T 0 = .lit (.int .i64 64) ∧ T 3 = .sl (.own t) 1 (dQ (pr k)) ∧ T 4 = .lit (w64 (BitVec.ofNat 64 (k + 2))) ∧ T 5 = .lit (.bool (isT (BitVec.ofNat 64 (k + 2)) ((pr k).take i))) ∧ T 6 = .lit (.int .i64 (i : Int)) ∧ S' = S1) ((pr k).length) ?_ ?_
    · exact ⟨0, rfl, h0, h3, h4, rfl, rfl, rfl⟩
    rintro n T S' ⟨i, hi, h0, h3, h4, h5, h6, rfl⟩
    have hp := pr_pos k i
    have hkl := pr_lt k (by omega) (by omega)
    refine TWp.seq_k fun K10 hK10 => ?_
    refine TWp.sr fun K11 hK11 => ?_
    simp (disch := omega) only [seval, go_sem, h0, h3, h4, h5, h6, ho]
    repeat (refine ⟨by omega, ?_⟩)
    refine hK11 _ _ ?_; try (clear hK11; clear K11)
    refine TWp.cond rfl (fun hb => ?_) (fun hb => ?_)
    · try (replace hb := of_decide_eq_true hb)
      refine TWp.skip ?_
      refine hK10 _ _ ?_; try (clear hK10; clear K10)
      refine TWp.seq_k fun K12 hK12 => ?_
      refine TWp.block ?_
      refine TWp.rk fun K13 hK13 => ?_
      simp (disch := omega) only [seval, go_sem, h0, h3, h4, h5, h6, ho]
      repeat' (first | refine ⟨by omega, ?_⟩ | (refine brT_split (fun hb => ?_) (fun hb => ?_) <;> simp (disch := omega) only [seval, go_sem, hb, h0, h3, h4, h5, h6, ho]))
      all_goals
        refine hK13 _ _ ?_; try (clear hK13; clear K13)
        refine hK12 _ _ ?_; try (clear hK12; clear K12)
        refine TWp.rk fun K14 hK14 => ?_
        simp (disch := omega) only [seval, go_sem, h0, h3, h4, h5, h6, ho]
        repeat (refine ⟨by omega, ?_⟩)
        refine hK14 _ _ ?_; try (clear hK14; clear K14)
        have hi' : i < (pr k).length := by omega
        refine ⟨n - 1, by omega, i + 1, by omega, h0, h3, h4, ?_, rfl, rfl⟩
        rw [take_succ_getD 0#64 hi', isT_snoc]
        first
          | (rw [hb, Bool.true_and]; rfl)
          | (rw [hb, Bool.false_and]; rfl)
    · try (replace hb := of_decide_eq_false hb)
      refine TWp.exit ?_
      refine hK8 _ _ ?_; try (clear hK8; clear K8)
      refine TWp.sr fun K15 hK15 => ?_
      simp (disch := omega) only [seval, go_sem, h0, h3, h4, h5, h6, ho]
      repeat (refine ⟨by omega, ?_⟩)
      refine hK15 _ _ ?_; try (clear hK15; clear K15)
      refine TWp.cond rfl (fun hb => ?_) (fun hb => ?_)
      · try (replace hb := of_decide_eq_true hb)
        refine TWp.rk fun K16 hK16 => ?_
        simp (disch := omega) only [seval, go_sem, h0, h3, h4, h5, h6, ho]
        repeat (refine ⟨by omega, ?_⟩)
        refine hK16 _ _ ?_; try (clear hK16; clear K16)
        refine hK6 _ _ ?_; try (clear hK6; clear K6)
        refine TWp.rk fun K17 hK17 => ?_
        simp (disch := omega) only [seval, go_sem, h0, h3, h4, h5, h6, ho]
        repeat (refine ⟨by omega, ?_⟩)
        refine hK17 _ _ ?_; try (clear hK17; clear K17)
        obtain rfl : i = (pr k).length := by omega
        have hbb : isT (BitVec.ofNat 64 (k + 2)) (pr k) = true := ‹isT (BitVec.ofNat 64 (k + 2)) (pr k) = true›
        refine ⟨n1 - 1, by omega, k + 1, _, by omega, h0, ?_, ?_, push_self _ _, hkeep.1, (hkeep.set ht _).push' _⟩
        · rw [pr_step k hkl, if_pos hbb, dQ_app]; rfl
        · show TV.lit (w64 (_ + 1#64)) = _
          rw [x_succ]
      · try (replace hb := of_decide_eq_false hb)
        refine TWp.skip ?_
        refine hK6 _ _ ?_; try (clear hK6; clear K6)
        refine TWp.rk fun K18 hK18 => ?_
        simp (disch := omega) only [seval, go_sem, h0, h3, h4, h5, h6, ho]
        repeat (refine ⟨by omega, ?_⟩)
        refine hK18 _ _ ?_; try (clear hK18; clear K18)
        obtain rfl : i = (pr k).length := by omega
        have hbb : isT (BitVec.ofNat 64 (k + 2)) (pr k) = false := ‹isT (BitVec.ofNat 64 (k + 2)) (pr k) = false›
        refine ⟨n1 - 1, by omega, k + 1, t, by omega, h0, ?_, ?_, ho, ht, hkeep⟩
        · rw [pr_step k hkl, if_neg (by rw [hbb]; exact Bool.false_ne_true)]; exact h3
        · show TV.lit (w64 (_ + 1#64)) = _
          rw [x_succ]
  · try (replace hb := of_decide_eq_false hb)
    refine TWp.exit ?_
    refine hK2 _ _ ?_; try (clear hK2; clear K2)
    refine TWp.sr fun K19 hK19 => ?_
    simp (disch := omega) only [seval, go_sem, h0, h3, h4, ho]
    repeat (refine ⟨by omega, ?_⟩)
    refine hK19 _ _ ?_; try (clear hK19; clear K19)
    have hk : k = 310 := by
      have := pr_len k
      omega
    subst hk
    exact TWp.ret ⟨.inr rfl, [_], ⟨rfl, trivial⟩, t, by rw [← pr_all]; rfl, ht, ho, hkeep⟩
theorem c_godownref02_primes {S : TS} {K : TV → TS → Prop} (hK : K (.sl (.own S.n) 1 (dQ primeB)) (S.push .lin)) : TCall env 150 [.lit (.int .i64 64)] S K :=
  (c_godownref02_primes_ok S).row.mono fun t S' ⟨h1, h2⟩ => by rw [h1, h2]; exact hK
theorem tab_snoc (f : BitVec 64 → BitVec 32) (l : List (BitVec 64)) (i : Nat) (h : i < l.length) : gD ((l.take (i + 1)).map f) = gD ((l.take i).map f) ++ [.lit (w32 (f (l.getD i 0#64)))] := by
  rw [take_succ_getD 0#64 h, List.map_append, gD_app]; rfl
theorem take8_get (i : Nat) (h : i < 8) : (primeB.take 8).getD i 0#64 = primeB.getD i 0#64 := by
  simp only [List.getD_eq_getElem?_getD]
  rw [List.getElem?_take_of_lt h]
theorem p8_len : (primeB.take 8).length = 8 := rfl
attribute [irreducible] primeB
def tabH : List (BitVec 32) := (primeB.take 8).map (rootF squareF)
def tabK : List (BitVec 32) := primeB.map (rootF cubeF)
set_option maxRecDepth 8000 in
theorem c_godownref02_Tables_ok (S : TS) : TCall env 104 [] S fun r S' => ∃ t1 t2, r = .tup [.sl (.own t1) 1 (gD tabH), .sl (.own t2) 1 (gD tabK)] ∧ S.n ≤ t1 ∧ S.n ≤ t2 ∧ t1 ≠ t2 ∧ S'.objs t1 = .lin ∧ S'.objs t2 = .lin ∧ Keep S S' := by
  have hpl := primeB_len
  have h8l := p8_len
  refine TCall.of 31 [.tmp 0, .tmp 1] Tryz.func104 rfl rfl rfl rfl (by kernel_rfl) rfl ?_
  refine TWp.sr fun K0 hK0 => ?_
  simp (disch := omega) only [seval, go_sem]
  repeat (refine ⟨by omega, ?_⟩)
  refine hK0 _ _ ?_; try (clear hK0; clear K0)
  refine TWp.sr fun K1 hK1 => ?_
  simp (disch := omega) only [seval, go_sem]
  repeat (refine ⟨by omega, ?_⟩)
  refine c_godownref02_primes ?_
  simp (disch := omega) only [seval, go_sem]
  repeat (refine ⟨by omega, ?_⟩)
  refine hK1 _ _ ?_; try (clear hK1; clear K1)
  refine TWp.sr fun K2 hK2 => ?_
  simp (disch := omega) only [seval, go_sem]
  repeat (refine ⟨by omega, ?_⟩)
  refine hK2 _ _ ?_; try (clear hK2; clear K2)
  refine TWp.seq_k fun K3 hK3 => ?_
  refine TWp.sr fun K4 hK4 => ?_
  simp (disch := omega) only [seval, go_sem]
  repeat (refine ⟨by omega, ?_⟩)
  refine hK4 _ _ ?_; try (clear hK4; clear K4)
  refine TWp.block ?_
  refine TWp.asRow 3 1 rfl (.inl rfl) ?_
  refine TWp.asRow 4 1 rfl (.inl rfl) ?_
  refine TWp.loop (fun n T S' => ∃ i t1 t2 g, n + i = 64 ∧ T 2 = .sl g 1 (dQ primeB) ∧ T 3 = .sl (.own t1) 1 (gD (((primeB.take 8).take i).map (rootF squareF))) ∧ T 4 = .sl (.own t2) 1 (gD ((primeB.take i).map (rootF cubeF))) ∧ T 5 = .lit (.int .i64 (i : Int)) ∧ S.n ≤ t1 ∧ S.n ≤ t2 ∧ t1 ≠ t2 ∧ S'.objs t1 = .lin ∧ S'.objs t2 = .lin ∧ Keep S S' ∧ t1 < S'.n ∧ t2 < S'.n) (64) ?_ ?_
  · refine ⟨0, _, _, _, rfl, rfl, rfl, rfl, rfl, ?_, ?_, ?_, ?_, push_self _ _, ?_, ?_, ?_⟩
    all_goals first | exact ((Keep.push S _).push' _).push' _ | (simp only [TS.push_n]; omega) | (simp (disch := omega) only [seval, go_sem])
  rintro n T S' ⟨i, t1, t2, g, hn, h2, h3, h4, h5, g1, g2, g3, o1, o2, hkeep, b1, b2⟩
  have hl1 : (((primeB.take 8).take i).map (rootF squareF)).length ≤ 8 := by simp; omega
  have hl2 : ((primeB.take i).map (rootF cubeF)).length ≤ 64 := by simp; omega
  refine TWp.seq_k fun K5 hK5 => ?_
  refine TWp.sr fun K6 hK6 => ?_
  simp (disch := omega) only [seval, go_sem, h2, h3, h4, h5, o1, o2]
  repeat (refine ⟨by omega, ?_⟩)
  refine hK6 _ _ ?_; try (clear hK6; clear K6)
  refine TWp.cond rfl (fun hb => ?_) (fun hb => ?_)
  · try (replace hb := of_decide_eq_true hb)
    refine TWp.skip ?_
    refine hK5 _ _ ?_; try (clear hK5; clear K5)
    refine TWp.seq_k fun K7 hK7 => ?_
    refine TWp.block ?_
    refine TWp.seq_k fun K8 hK8 => ?_
    refine TWp.sr fun K9 hK9 => ?_
    simp (disch := omega) only [seval, go_sem, h2, h3, h4, h5, o1, o2]
    repeat (refine ⟨by omega, ?_⟩)
    refine hK9 _ _ ?_; try (clear hK9; clear K9)
    refine TWp.cond rfl (fun hb => ?_) (fun hb => ?_)
    · try (replace hb := of_decide_eq_true hb)
      refine TWp.rk fun K10 hK10 => ?_
      simp (disch := omega) only [seval, go_sem, h2, h3, h4, h5, o1, o2]
      repeat (refine ⟨by omega, ?_⟩)
      refine c_godownref02_root_square ?_
      simp (disch := omega) only [seval, go_sem, h2, h3, h4, h5, o1, o2]
      repeat (refine ⟨by omega, ?_⟩)
      refine hK10 _ _ ?_; try (clear hK10; clear K10)
      refine hK8 _ _ ?_; try (clear hK8; clear K8)
      refine TWp.rk fun K11 hK11 => ?_
      simp (disch := omega) only [seval, go_sem, h2, h3, h4, h5, o1, o2]
      repeat (refine ⟨by omega, ?_⟩)
      refine c_godownref02_root_cube ?_
      simp (disch := omega) only [seval, go_sem, h2, h3, h4, h5, o1, o2]
      repeat (refine ⟨by omega, ?_⟩)
      refine hK11 _ _ ?_; try (clear hK11; clear K11)
      refine hK7 _ _ ?_; try (clear hK7; clear K7)
      refine TWp.rk fun K12 hK12 => ?_
      simp (disch := omega) only [seval, go_sem, h2, h3, h4, h5, o1, o2]
      repeat (refine ⟨by omega, ?_⟩)
      refine hK12 _ _ ?_; try (clear hK12; clear K12)
      refine ⟨n - 1, by omega, i + 1, S'.n, S'.n + 1, g, by omega, h2, ?_, ?_, rfl, ?_, ?_, ?_, ?_, push_self _ _, ((((hkeep.set g1 _).set g2 _).push' _).push' _), ?_, ?_⟩
      all_goals first
        | ((try simp only [TS.push_n, TS.set_n]); have := hkeep.1; omega)
        | (simp (disch := omega) only [seval, go_sem]; done)
        | exact congrArg (TV.sl _ 1) (by rw [tab_snoc _ _ _ (by omega), take8_get i (by omega)])
        | exact congrArg (TV.sl _ 1) (tab_snoc _ _ _ (by omega)).symm
    · try (replace hb := of_decide_eq_false hb)
      refine TWp.skip ?_
      refine hK8 _ _ ?_; try (clear hK8; clear K8)
      refine TWp.rk fun K13 hK13 => ?_
      simp (disch := omega) only [seval, go_sem, h2, h3, h4, h5, o1, o2]
      repeat (refine ⟨by omega, ?_⟩)
      refine c_godownref02_root_cube ?_
      simp (disch := omega) only [seval, go_sem, h2, h3, h4, h5, o1, o2]
      repeat (refine ⟨by omega, ?_⟩)
      refine hK13 _ _ ?_; try (clear hK13; clear K13)
      refine hK7 _ _ ?_; try (clear hK7; clear K7)
      refine TWp.rk fun K14 hK14 => ?_
      simp (disch := omega) only [seval, go_sem, h2, h3, h4, h5, o1, o2]
      repeat (refine ⟨by omega, ?_⟩)
      refine hK14 _ _ ?_; try (clear hK14; clear K14)
      refine ⟨n - 1, by omega, i + 1, t1, S'.n, g, by omega, h2, ?_, ?_, rfl, ?_, ?_, ?_, ?_, push_self _ _, ((hkeep.set g2 _).push' _), ?_, ?_⟩
      all_goals first
        | ((try simp only [TS.push_n, TS.set_n]); have := hkeep.1; omega)
        | (simp (disch := omega) only [seval, go_sem, o1]; done)
        | exact congrArg (TV.sl _ 1) (tab_snoc _ _ _ (by omega)).symm
        | exact h3.trans (by rw [List.take_of_length_le (i := i) (by omega), List.take_of_length_le (i := i + 1) (by omega)])
  · try (replace hb := of_decide_eq_false hb)
    refine TWp.exit ?_
    refine hK3 _ _ ?_; try (clear hK3; clear K3)
    refine TWp.sr fun K15 hK15 => ?_
    simp (disch := omega) only [seval, go_sem, h2, h3, h4, h5, o1, o2]
    repeat (refine ⟨by omega, ?_⟩)
    refine hK15 _ _ ?_; try (clear hK15; clear K15)
    obtain rfl : i = 64 := by omega
    refine TWp.ret ⟨.inr rfl, [_, _], ⟨rfl, rfl, trivial⟩, t1, t2, ?_, g1, g2, g3, o1, o2, hkeep⟩
    show TV.tup [.sl (.own t1) 1 _, .sl (.own t2) 1 _] = _
    rw [tabH, tabK, List.take_of_length_le (i := 64) (by omega)]
end Go.Proofs.YtlljknmojafkoaaGreatDoor
namespace Go.Proofs.YtlljknmojafkoaaGreatDoor
open Go.RowKit TL
theorem c_godownref02_Tables {S : TS} {K : TV → TS → Prop} (hK : K (.tup [.sl .none 1 (gD tabH), .sl .none 1 (gD tabK)]) S) : TCall env 104 [] S K :=
  (c_godownref02_Tables_ok S).forget fun t S1 hw ⟨t1, t2, h1, _, _, _, _, _, hk⟩ => ⟨[], _, S, .none hw hk, by rw [h1]; exact .tupF (.cons (.slN ..) (.cons (.slN ..) .nil)), hK⟩
set_option maxRecDepth 8000 in
theorem c_godownref02_New_ok (S : TS) : TCall env 46 [] S fun r S' => r = .agg [.sl .none 1 (gD tabH), .sl .none 1 (gD tabK)] ∧ Keep S S' := by
  refine TCall.of 10 [.cell 0 27] Tryz.func46 rfl rfl rfl rfl (by kernel_rfl) rfl ?_
  refine TWp.sr fun K0 hK0 => ?_
  simp (disch := omega) only [seval, go_sem]
  repeat (refine ⟨by omega, ?_⟩)
  refine hK0 _ _ ?_; try (clear hK0; clear K0)
  refine TWp.sr fun K1 hK1 => ?_
  simp (disch := omega) only [seval, go_sem]
  repeat (refine ⟨by omega, ?_⟩)
  refine c_godownref02_Tables ?_
  simp (disch := omega) only [seval, go_sem]
  repeat (refine ⟨by omega, ?_⟩)
  refine hK1 _ _ ?_; try (clear hK1; clear K1)
  refine TWp.sr fun K2 hK2 => ?_
  simp (disch := omega) only [seval, go_sem]
  repeat (refine ⟨by omega, ?_⟩)
  refine hK2 _ _ ?_; try (clear hK2; clear K2)
  exact TWp.ret ⟨.inr rfl, [.agg [.sl .none 1 (gD tabH), .sl .none 1 (gD tabK)]], ⟨resCell (id := S.n) rfl ti27 (push_self _ _) rfl rfl, trivial⟩, rfl, Keep.push S _⟩
theorem c_godownref02_New {S : TS} {K : TV → TS → Prop} (hK : K (.agg [.sl .none 1 (gD tabH), .sl .none 1 (gD tabK)]) S) : TCall env 46 [] S K :=
  (TCall.pure (c_godownref02_New_ok S) (.aggF (.cons (.slN ..) (.cons (.slN ..) .nil)))).mono fun t S' ⟨h1, h2⟩ => by rw [h1, h2]; exact hK
end Go.Proofs.YtlljknmojafkoaaGreatDoor
namespace Go.Proofs.YtlljknmojafkoaaGreatDoor
open Go.RowKit TL
set_option maxRecDepth 20000 in
theorem tabH_eq : tabH = fW := by
  unfold tabH primeB
  decide +kernel
set_option maxRecDepth 20000 in
theorem tabK_eq : tabK = kW := by
  unfold tabK primeB
  decide +kernel
theorem rot_tr (x : BitVec 32) : rot x (-6) = tr x 6 ∧ rot x (-11) = tr x 11 ∧ rot x (-25) = tr x 25 ∧ rot x (-2) = tr x 2 ∧ rot x (-13) = tr x 13 ∧ rot x (-22) = tr x 22 ∧ rot x (-7) = tr x 7 ∧ rot x (-18) = tr x 18 ∧ rot x (-17) = tr x 17 ∧ rot x (-19) = tr x 19 := by
  refine ⟨?_, ?_, ?_, ?_, ?_, ?_, ?_, ?_, ?_, ?_⟩ <;> exact BitVec.or_comm _ _
theorem most_eq (a b c : BitVec 32) : (a &&& b) ||| (c &&& (a ||| b)) = (a &&& b) ^^^ (a &&& c) ^^^ (b &&& c) := by
  apply BitVec.eq_of_getLsbD_eq
  intro i hi
  simp only [BitVec.getLsbD_or, BitVec.getLsbD_and, BitVec.getLsbD_xor]
  cases a.getLsbD i <;> cases b.getLsbD i <;> cases c.getLsbD i <;> rfl
theorem nat_word1 (x y z t : Nat) (hx : x < 256) (hy : y < 256) (hz : z < 256) (ht : t < 256) :
    (((x * 16777216 % 4294967296 + y * 65536 % 4294967296) % 4294967296 + z * 256 % 4294967296) % 4294967296 + t) % 4294967296 = x * 16777216 + (y * 65536 + (z * 256 + t)) := by omega
theorem nat_word2 (x y z t : Nat) (hx : x < 256) (hy : y < 256) (hz : z < 256) (ht : t < 256) :
    x <<< 24 ||| y <<< 16 ||| z <<< 8 ||| t = x * 16777216 + (y * 65536 + (z * 256 + t)) := by
  rw [Nat.or_assoc, Nat.or_assoc]
  rw [← Nat.shiftLeft_add_eq_or_of_lt (i := 8) (by omega) z]
  rw [← Nat.shiftLeft_add_eq_or_of_lt (i := 16) (by rw [Nat.shiftLeft_eq]; omega) y]
  rw [← Nat.shiftLeft_add_eq_or_of_lt (i := 24) (by rw [Nat.shiftLeft_eq, Nat.shiftLeft_eq]; omega) x]
  simp only [Nat.shiftLeft_eq]
theorem word_eq (a b c d : BitVec 8) : BitVec.setWidth 32 a * 16777216#32 + BitVec.setWidth 32 b * 65536#32 + BitVec.setWidth 32 c * 256#32 + BitVec.setWidth 32 d =
    (BitVec.setWidth 32 a) <<< 24 ||| (BitVec.setWidth 32 b) <<< 16 ||| (BitVec.setWidth 32 c) <<< 8 ||| (BitVec.setWidth 32 d) := by
  have ha := a.isLt
  have hb := b.isLt
  have hc := c.isLt
  have hd := d.isLt
  have e (v : BitVec 8) : (BitVec.setWidth 32 v).toNat = v.toNat := by rw [BitVec.toNat_setWidth]; exact Nat.mod_eq_of_lt (by have := v.isLt; omega)
  have f (v : BitVec 8) (k : Nat) (hk : k ≤ 24) : (BitVec.setWidth 32 v <<< k).toNat = v.toNat <<< k := by
    rw [BitVec.toNat_shiftLeft, e]
    refine Nat.mod_eq_of_lt ?_
    rw [Nat.shiftLeft_eq]
    have h1 := Nat.pow_le_pow_right (n := 2) (by omega) hk
    have h2 := Nat.mul_le_mul (show v.toNat ≤ 255 by have := v.isLt; omega) h1
    have h3 : 255 * 2 ^ 24 < 2 ^ 32 := by decide
    omega
  apply BitVec.eq_of_toNat_eq
  rw [BitVec.toNat_or, BitVec.toNat_or, BitVec.toNat_or, f a 24 (by omega), f b 16 (by omega), f c 8 (by omega), e d, nat_word2 _ _ _ _ ha hb hc hd, ← nat_word1 _ _ _ _ ha hb hc hd]
  rw [BitVec.toNat_add, BitVec.toNat_add, BitVec.toNat_add, BitVec.toNat_mul, BitVec.toNat_mul, BitVec.toNat_mul, e, e, e, e]
  rfl
end Go.Proofs.YtlljknmojafkoaaGreatDoor
namespace Go.Proofs.YtlljknmojafkoaaGreatDoor
open Go.RowKit TL
theorem getD_set_ne' {α : Type} (l : List α) (i j : Nat) (x d : α) (h : j ≠ i) : (l.set i x).getD j d = l.getD j d := by
  simp [List.getD_eq_getElem?_getD, List.getElem?_set, Ne.symm h]
theorem getD_set_eq' {α : Type} (l : List α) (i : Nat) (x d : α) (h : i < l.length) : (l.set i x).getD i d = x := by
  simp [List.getD_eq_getElem?_getD, List.getElem?_set, h]
theorem sched_get (p : List (BitVec 8)) : ∀ m j, j < m → m ≤ 64 → (sched p m).getD j 0 = wordStep p j (sched p j)
  | 0, j, h, _ => by omega
  | m + 1, j, h, hm => by
    rw [sched]
    by_cases hj : j = m
    · subst hj
      rw [getD_set_eq' _ _ _ _ (by rw [sched_len]; omega)]
    · rw [getD_set_ne' _ _ _ _ _ hj]
      exact sched_get p m j (by omega) (by omega)
theorem sched_take (p : List (BitVec 8)) (i j : Nat) (hj : j < i) (hi : i ≤ 64) : ((sched p 64).take i).getD j 0 = (sched p i).getD j 0 := by
  rw [sched_get p i j hj hi, ← sched_get p 64 j (by omega) (by omega)]
  simp [List.getD_eq_getElem?_getD, List.getElem?_take, hj]
theorem drop_take_get (q : List (BitVec 8)) (at_ i k : Nat) (h : 4 * i + k < 64) : ((q.drop at_).take 64).getD (4 * i + k) 0 = (q.drop (at_ + 4 * i)).getD k 0 := by
  simp only [List.getD_eq_getElem?_getD, List.getElem?_take, if_pos h, List.getElem?_drop, Nat.add_assoc]
theorem word_lo (q : List (BitVec 8)) (at_ i : Nat) (hi : i < 16) : (sched ((q.drop at_).take 64) 64).getD i 0 =
    BitVec.setWidth 32 ((q.drop (at_ + 4 * i)).getD 0 0#8) * 16777216#32 + BitVec.setWidth 32 ((q.drop (at_ + 4 * i)).getD 1 0#8) * 65536#32 + BitVec.setWidth 32 ((q.drop (at_ + 4 * i)).getD 2 0#8) * 256#32 + BitVec.setWidth 32 ((q.drop (at_ + 4 * i)).getD 3 0#8) := by
  rw [sched_get _ 64 i (by omega) (by omega), wordStep, if_pos hi, wordAt, word_eq]
  have h0 := drop_take_get q at_ i 0 (by omega)
  have h1 := drop_take_get q at_ i 1 (by omega)
  have h2 := drop_take_get q at_ i 2 (by omega)
  have h3 := drop_take_get q at_ i 3 (by omega)
  rw [Nat.add_zero] at h0
  rw [h0, h1, h2, h3]; rfl
theorem word_hi (b : List (BitVec 8)) (i : Nat) (h16 : 16 ≤ i) (hi : i < 64) : (sched b 64).getD i 0 =
    ((sched b 64).take i).getD (i - 16) 0#32 + (tr (((sched b 64).take i).getD (i - 15) 0#32) 7 ^^^ tr (((sched b 64).take i).getD (i - 15) 0#32) 18 ^^^ ((sched b 64).take i).getD (i - 15) 0#32 >>> 3) + ((sched b 64).take i).getD (i - 7) 0#32 +
      (tr (((sched b 64).take i).getD (i - 2) 0#32) 17 ^^^ tr (((sched b 64).take i).getD (i - 2) 0#32) 19 ^^^ ((sched b 64).take i).getD (i - 2) 0#32 >>> 10) := by
  have h1 := sched_take b i (i - 16) (by omega) (by omega)
  have h2 := sched_take b i (i - 15) (by omega) (by omega)
  have h3 := sched_take b i (i - 7) (by omega) (by omega)
  have h4 := sched_take b i (i - 2) (by omega) (by omega)
  have e := sched_get b 64 i (by omega) (by omega)
  rw [wordStep, if_neg (by omega), low, high, ← h1, ← h2, ← h3, ← h4, (rot_tr _).2.2.2.2.2.2.1, (rot_tr _).2.2.2.2.2.2.2.1, (rot_tr _).2.2.2.2.2.2.2.2.1, (rot_tr _).2.2.2.2.2.2.2.2.2] at e
  exact e
theorem turn_ref (bl : List (BitVec 8)) (hs : List (BitVec 32)) (i : Nat) (a b c d e f g x : BitVec 32) (h : turnUpto bl hs i = [a, b, c, d, e, f, g, x]) :
    turnUpto bl hs (i + 1) = [(x + (tr e 6 ^^^ tr e 11 ^^^ tr e 25) + (e &&& f ^^^ ~~~e &&& g) + kW.getD i 0#32 + (sched bl 64).getD i 0#32) + ((tr a 2 ^^^ tr a 13 ^^^ tr a 22) + (a &&& b ||| c &&& (a ||| b))), a, b, c, d + (x + (tr e 6 ^^^ tr e 11 ^^^ tr e 25) + (e &&& f ^^^ ~~~e &&& g) + kW.getD i 0#32 + (sched bl 64).getD i 0#32), e, f, g] := by
  rw [turnUpto, h]
  generalize sched bl 64 = w
  rw [most_eq]
  have e1 := rot_tr e
  have a1 := rot_tr a
  simp only [turnStep, List.getD_cons_zero, List.getD_cons_succ, e1, a1]
  simp only [List.take, splL, List.getD_cons_zero, List.getD_cons_succ, List.set_cons_zero, List.set_cons_succ]
  rw [BitVec.add_assoc]; rfl
theorem add_ref (h : List (BitVec 32)) (bl : List (BitVec 8)) (hh : h.length = 8) (a b c d e f g x : BitVec 32) (ht : turnUpto bl h 64 = [a, b, c, d, e, f, g, x]) :
    turn h bl = [h.getD 0 0#32 + a, h.getD 1 0#32 + b, h.getD 2 0#32 + c, h.getD 3 0#32 + d, h.getD 4 0#32 + e, h.getD 5 0#32 + f, h.getD 6 0#32 + g, h.getD 7 0#32 + x] := by
  rw [turn, ht]
  clear ht
  match h, hh with
  | [h0, h1, h2, h3, h4, h5, h6, h7], _ =>
    simp only [addUpto, List.getD_cons_zero, List.getD_cons_succ, List.set_cons_zero, List.set_cons_succ]
set_option maxRecDepth 20000 in
set_option maxHeartbeats 4000000 in
theorem c_godownref02_Sum_ok (S : TS) (g1 g2 g : Tag) (p : List (BitVec 8)) (hp : p.length ≤ 1000000) : TCall env 50 [.agg [.sl g1 1 (gD fW), .sl g2 1 (gD kW)], .sl g 1 (dB p)] S fun r S' => ∃ k, r = .sl (.own k) 1 (dB (sha p)) ∧ S.n ≤ k ∧ S'.objs k = .lin ∧ Keep S S' := by
  have hf8 := fW_len
  have hk64 := kW_len
  obtain ⟨PP, hPP⟩ : ∃ PP, PP = padding p := ⟨_, rfl⟩
  have hpm : PP.length ≤ p.length + 200 := by rw [hPP]; exact padding_max p
  have hpl : PP.length % 64 = 0 := by rw [hPP]; exact padding_len p
  refine TCall.of 306 [.tmp 4] Tryz.func50 rfl rfl rfl rfl (by kernel_rfl) rfl ?_
  refine TWp.sr fun K0 hK0 => ?_
  simp -implicitDefEqProofs (disch := omega) only [seval, go_sem]
  repeat (refine ⟨by omega, ?_⟩)
  refine hK0 _ _ ?_; try (clear hK0; clear K0)
  refine TWp.sr fun K1 hK1 => ?_
  simp -implicitDefEqProofs (disch := omega) only [seval, go_sem]
  repeat (refine ⟨by omega, ?_⟩)
  refine hK1 _ _ ?_; try (clear hK1; clear K1)
  refine TWp.sr fun K2 hK2 => ?_
  simp -implicitDefEqProofs (disch := omega) only [seval, go_sem]
  repeat (refine ⟨by omega, ?_⟩)
  refine hK2 _ _ ?_; try (clear hK2; clear K2)
  refine TWp.sr fun K3 hK3 => ?_
  simp -implicitDefEqProofs (disch := omega) only [seval, go_sem]
  repeat (refine ⟨by omega, ?_⟩)
  refine hK3 _ _ ?_; try (clear hK3; clear K3)
  refine TWp.seq_k fun K4 hK4 => ?_
  refine TWp.block ?_
  refine TWp.loop (fun n T S' => ∃ xs k, T 1 = .sl g 1 (dB p) ∧ T 2 = .ptr S.n 0 ∧ T 5 = .sl (.own k) 1 (dB xs) ∧ S'.objs k = .lin ∧ S.n < k ∧ S'.objs S.n = .cells 27 [.sl g1 1 (gD fW), .sl g2 1 (gD kW)] ∧ S.n < S'.n ∧ Keep S S' ∧ xs.length + n ≤ 1000100 ∧ n = nought xs ∧ xs ++ List.replicate n 0#8 = (p ++ [128#8]) ++ List.replicate (nought (p ++ [128#8])) 0#8) (nought (p ++ [128#8])) ?_ ?_
  · refine ⟨p ++ [128#8], S.n + 1 + 1, rfl, rfl, by rw [dB_app]; rfl, push_self _ _, by omega, (push_lt (by simp only [TS.push_n]; omega)).trans ((push_lt (by simp only [TS.push_n]; omega)).trans (push_self _ _)), by simp only [TS.push_n]; omega, ((Keep.push S _).push' _).push' _, ?_, rfl, rfl⟩
    simp [nought]; omega
  rintro n T S' ⟨xs, k, h1, h2, h5, o5, b5, o0, bn, hkeep, hlen, hn, hxs⟩
  refine TWp.seq_k fun K5 hK5 => ?_
  refine TWp.sr fun K6 hK6 => ?_
  simp -implicitDefEqProofs (disch := omega) only [seval, go_sem, h1, h2, h5, o5, o0]
  repeat (refine ⟨by omega, ?_⟩)
  refine hK6 _ _ ?_; try (clear hK6; clear K6)
  refine TWp.cond_k fun K7 hK7 => ?_
  simp -implicitDefEqProofs (disch := omega) only [seval, go_sem, h1, h2, h5, o5, o0]
  refine hK7 _ (fun hb => ?_) (fun hb => ?_) <;> clear hK7 <;> clear K7
  · try (replace hb := of_decide_eq_true hb)
    refine TWp.skip ?_
    refine hK5 _ _ ?_; try (clear hK5; clear K5)
    refine TWp.block ?_
    refine TWp.rk fun K8 hK8 => ?_
    simp -implicitDefEqProofs (disch := omega) only [seval, go_sem, h1, h2, h5, o5, o0]
    repeat (refine ⟨by omega, ?_⟩)
    refine hK8 _ _ ?_; try (clear hK8; clear K8)
    have h1n : nought xs = nought (xs ++ [0#8]) + 1 := by simp [nought]; omega
    refine ⟨nought (xs ++ [0#8]), by omega, xs ++ [0#8], S'.n, h1, h2, by rw [dB_app]; rfl, push_self _ _, bn, (setpush_lt bn (by omega)).trans o0, Nat.lt_succ_of_lt bn, (hkeep.set (by omega) _).push' _, by simp; omega, rfl, ?_⟩
    rw [← hxs, hn, h1n, List.replicate_succ]; simp
  · try (replace hb := of_decide_eq_false hb)
    refine TWp.exit ?_
    refine hK4 _ _ ?_; try (clear hK4; clear K4)
    refine TWp.sr fun K9 hK9 => ?_
    simp -implicitDefEqProofs (disch := omega) only [seval, go_sem, h1, h2, h5, o5, o0]
    repeat (refine ⟨by omega, ?_⟩)
    refine hK9 _ _ ?_; try (clear hK9; clear K9)
    refine TWp.seq_k fun K10 hK10 => ?_
    refine TWp.sr fun K11 hK11 => ?_
    simp -implicitDefEqProofs (disch := omega) only [seval, go_sem, h1, h2, h5, o5, o0]
    repeat (refine ⟨by omega, ?_⟩)
    refine hK11 _ _ ?_; try (clear hK11; clear K11)
    refine TWp.block ?_
    refine TWp.loop (fun n T S' => ∃ ys k i, n + i = 8 ∧ T 1 = .sl g 1 (dB p) ∧ T 2 = .ptr S.n 0 ∧ T 6 = .lit (w64 (BitVec.ofNat 64 p.length * 8#64)) ∧ T 7 = .lit (.int .i64 (i : Int)) ∧ T 5 = .sl (.own k) 1 (dB ys) ∧ S'.objs k = .lin ∧ S.n < k ∧ S'.objs S.n = .cells 27 [.sl g1 1 (gD fW), .sl g2 1 (gD kW)] ∧ S.n < S'.n ∧ Keep S S' ∧ ys.length + n ≤ 1000300 ∧ ys ++ lenBytes (BitVec.ofNat 64 p.length * 8#64) n = PP) (8) ?_ ?_
    · have hn0 : n = 0 := by rw [hn]; simp only [nought]; omega
      subst hn0
      refine ⟨xs, k, 0, rfl, h1, h2, rfl, rfl, h5, o5, b5, o0, bn, hkeep, by omega, ?_⟩
      rw [hPP, padding, ← hxs]; simp
    rintro n T S' ⟨ys, k, i, hi, h1, h2, h6, h7, h5, o5, b5, o0, bn, hkeep, hlen, hys⟩
    refine TWp.seq_k fun K12 hK12 => ?_
    refine TWp.sr fun K13 hK13 => ?_
    simp -implicitDefEqProofs (disch := omega) only [seval, go_sem, h1, h2, h5, h6, h7, o5, o0]
    repeat (refine ⟨by omega, ?_⟩)
    refine hK13 _ _ ?_; try (clear hK13; clear K13)
    refine TWp.cond_k fun K14 hK14 => ?_
    simp -implicitDefEqProofs (disch := omega) only [seval, go_sem, h1, h2, h5, h6, h7, o5, o0]
    refine hK14 _ (fun hb => ?_) (fun hb => ?_) <;> clear hK14 <;> clear K14
    · try (replace hb := of_decide_eq_true hb)
      refine TWp.skip ?_
      refine hK12 _ _ ?_; try (clear hK12; clear K12)
      refine TWp.seq_k fun K15 hK15 => ?_
      refine TWp.block ?_
      refine TWp.rk fun K16 hK16 => ?_
      simp -implicitDefEqProofs (disch := omega) only [seval, go_sem, h1, h2, h5, h6, h7, o5, o0]
      repeat (refine ⟨by omega, ?_⟩)
      refine hK16 _ _ ?_; try (clear hK16; clear K16)
      refine hK15 _ _ ?_; try (clear hK15; clear K15)
      refine TWp.rk fun K17 hK17 => ?_
      simp -implicitDefEqProofs (disch := omega) only [seval, go_sem, h1, h2, h5, h6, h7, o5, o0]
      repeat (refine ⟨by omega, ?_⟩)
      refine hK17 _ _ ?_; try (clear hK17; clear K17)
      obtain ⟨j, rfl⟩ : ∃ j, n = j + 1 := ⟨n - 1, by omega⟩
      have he : 56 - 8 * i = 8 * j := by omega
      refine ⟨j, by omega, ys ++ [((BitVec.ofNat 64 p.length * 8#64) >>> (8 * j)).setWidth 8], S'.n, i + 1, by omega, h1, h2, h6, rfl, ?_, push_self _ _, bn, (setpush_lt bn (by omega)).trans o0, Nat.lt_succ_of_lt bn, (hkeep.set (by omega) _).push' _, by simp; omega, ?_⟩
      · rw [dB_app, he]; rfl
      · rw [← hys]; simp [lenBytes]
    · try (replace hb := of_decide_eq_false hb)
      refine TWp.exit ?_
      refine hK10 _ _ ?_; try (clear hK10; clear K10)
      refine TWp.sr fun K18 hK18 => ?_
      simp -implicitDefEqProofs (disch := omega) only [seval, go_sem, h1, h2, h5, h6, h7, o5, o0]
      repeat (refine ⟨by omega, ?_⟩)
      refine hK18 _ _ ?_; try (clear hK18; clear K18)
      refine TWp.seq_k fun K19 hK19 => ?_
      refine TWp.sr fun K20 hK20 => ?_
      simp -implicitDefEqProofs (disch := omega) only [seval, go_sem, h1, h2, h5, h6, h7, o5, o0]
      repeat (refine ⟨by omega, ?_⟩)
      refine hK20 _ _ ?_; try (clear hK20; clear K20)
      refine TWp.block ?_
      refine TWp.loop (fun n T S' => ∃ at_ h g5 g8, at_ + 64 * n = PP.length ∧ h.length = 8 ∧ sumN n h (PP.drop at_) = sumN (PP.length / 64) fW PP ∧ T 9 = .lit (.int .i64 (at_ : Int)) ∧ T 2 = .ptr S.n 0 ∧ T 5 = .sl g5 1 (dB PP) ∧ T 8 = .sl g8 1 (gD h) ∧ S'.objs S.n = .cells 27 [.sl g1 1 (gD fW), .sl g2 1 (gD kW)] ∧ S.n < S'.n ∧ Keep S S') (PP.length / 64) ?_ ?_
      · have hn0 : n = 0 := by omega
        have hy : ys = PP := by rw [← hys, hn0]; simp [lenBytes]
        exact ⟨0, fW, _, _, by omega, fW_len, by simp, rfl, h2, by rw [← hy]; exact h5, rfl, (push_lt bn).trans o0, Nat.lt_succ_of_lt bn, hkeep.push' _⟩
      rintro n T S' ⟨at_, h, g5, g8, hat, hh, hsum, h9, h2, h5, h8, o0, bn, hkeep⟩
      obtain ⟨n3, rfl⟩ : ∃ n3, n3 = n := ⟨n, rfl⟩
      obtain ⟨W, hW⟩ : ∃ W, W = sched ((PP.drop at_).take 64) 64 := ⟨_, rfl⟩
      have hsl : W.length = 64 := by rw [hW]; exact sched_len _ 64
      refine TWp.seq_k fun K21 hK21 => ?_
      refine TWp.sr fun K22 hK22 => ?_
      simp -implicitDefEqProofs (disch := omega) only [seval, go_sem, h2, h5, h8, h9, o0]
      repeat (refine ⟨by omega, ?_⟩)
      refine hK22 _ _ ?_; try (clear hK22; clear K22)
      refine TWp.cond_k fun K23 hK23 => ?_
      simp -implicitDefEqProofs (disch := omega) only [seval, go_sem, h2, h5, h8, h9, o0]
      refine hK23 _ (fun hb => ?_) (fun hb => ?_) <;> clear hK23 <;> clear K23
      · try (replace hb := of_decide_eq_true hb)
        refine TWp.skip ?_
        refine hK21 _ _ ?_; try (clear hK21; clear K21)
        refine TWp.seq_k fun K24 hK24 => ?_
        refine TWp.block ?_
        refine TWp.sr fun K25 hK25 => ?_
        simp -implicitDefEqProofs (disch := omega) only [seval, go_sem, h2, h5, h8, h9, o0]
        repeat (refine ⟨by omega, ?_⟩)
        refine hK25 _ _ ?_; try (clear hK25; clear K25)
        refine TWp.seq_k fun K26 hK26 => ?_
        refine TWp.sr fun K27 hK27 => ?_
        simp -implicitDefEqProofs (disch := omega) only [seval, go_sem, h2, h5, h8, h9, o0]
        repeat (refine ⟨by omega, ?_⟩)
        refine hK27 _ _ ?_; try (clear hK27; clear K27)
        refine TWp.block ?_
        refine TWp.asRow 10 1 rfl (.inl rfl) ?_
        refine TWp.loop (fun n T S' => ∃ i k, n + i = 64 ∧ T 11 = .lit (.int .i64 (i : Int)) ∧ T 10 = .sl (.own k) 1 (gD (W.take i)) ∧ S'.objs k = .lin ∧ S.n < k ∧ T 9 = .lit (.int .i64 (at_ : Int)) ∧ T 2 = .ptr S.n 0 ∧ T 5 = .sl g5 1 (dB PP) ∧ T 8 = .sl g8 1 (gD h) ∧ S'.objs S.n = .cells 27 [.sl g1 1 (gD fW), .sl g2 1 (gD kW)] ∧ S.n < S'.n ∧ Keep S S') (64) ?_ ?_
        · exact ⟨0, S'.n, rfl, rfl, rfl, push_self _ _, bn, h9, h2, h5, h8, (push_lt bn).trans o0, Nat.lt_succ_of_lt bn, hkeep.push' _⟩
        rintro n T S' ⟨i, k, hi, h11, h10, o10, b10, h9, h2, h5, h8, o0, bn, hkeep⟩
        have htl : (W.take i).length = min i W.length := List.length_take
        have hdl : (PP.drop (at_ + 4 * i)).length = PP.length - (at_ + 4 * i) := List.length_drop
        refine TWp.seq_k fun K28 hK28 => ?_
        refine TWp.sr fun K29 hK29 => ?_
        simp -implicitDefEqProofs (disch := omega) only [seval, go_sem, h2, h5, h8, h9, h10, h11, o0, o10]
        repeat (refine ⟨by omega, ?_⟩)
        refine hK29 _ _ ?_; try (clear hK29; clear K29)
        refine TWp.cond_k fun K30 hK30 => ?_
        simp -implicitDefEqProofs (disch := omega) only [seval, go_sem, h2, h5, h8, h9, h10, h11, o0, o10]
        refine hK30 _ (fun hb => ?_) (fun hb => ?_) <;> clear hK30 <;> clear K30
        · try (replace hb := of_decide_eq_true hb)
          refine TWp.skip ?_
          refine hK28 _ _ ?_; try (clear hK28; clear K28)
          refine TWp.seq_k fun K31 hK31 => ?_
          refine TWp.block ?_
          refine TWp.sr fun K32 hK32 => ?_
          simp -implicitDefEqProofs (disch := omega) only [seval, go_sem, h2, h5, h8, h9, h10, h11, o0, o10]
          repeat (refine ⟨by omega, ?_⟩)
          refine hK32 _ _ ?_; try (clear hK32; clear K32)
          refine TWp.cond_k fun K33 hK33 => ?_
          simp -implicitDefEqProofs (disch := omega) only [seval, go_sem, h2, h5, h8, h9, h10, h11, o0, o10]
          refine hK33 _ (fun hb => ?_) (fun hb => ?_) <;> clear hK33 <;> clear K33
          · try (replace hb := of_decide_eq_true hb)
            refine TWp.sr fun K34 hK34 => ?_
            simp -implicitDefEqProofs (disch := omega) only [seval, go_sem, h2, h5, h8, h9, h10, h11, o0, o10]
            repeat (refine ⟨by omega, ?_⟩)
            refine hK34 _ _ ?_; try (clear hK34; clear K34)
            refine TWp.dk [(0, 0), (1, 0), (2, 0), (3, 0), (4, 0), (5, 0), (6, 0), (7, 0), (8, 0), (9, 0), (10, 0), (11, 0), (12, 0), (13, 0), (14, 0), (15, 0), (16, 0), (17, 0), (18, 0), (19, 0), (20, 0), (21, 0), (22, 0), (23, 1), (24, 2), (25, 0)] follows (by kernel_rfl) fun K35 hK35 => ?_
            simp -implicitDefEqProofs (disch := omega) only [seval, go_sem, h2, h5, h8, h9, h10, h11, o0, o10]
            repeat (refine ⟨by omega, ?_⟩)
            refine hK35 _ _ ?_; try (clear hK35; clear K35)
            refine hK31 _ _ ?_; try (clear hK31; clear K31)
            refine TWp.rk fun K36 hK36 => ?_
            simp -implicitDefEqProofs (disch := omega) only [seval, go_sem, h2, h5, h8, h9, h10, h11, o0, o10]
            repeat (refine ⟨by omega, ?_⟩)
            refine hK36 _ _ ?_; try (clear hK36; clear K36)
            refine ⟨n - 1, by omega, i + 1, S'.n, by omega, rfl, ?_, push_self _ _, bn, h9, h2, h5, h8, (setpush_lt bn (by omega)).trans o0, Nat.lt_succ_of_lt bn, (hkeep.set (by omega) _).push' _⟩
            rw [take_succ_getD 0 (show i < W.length by omega), gD_app, hW, word_lo PP at_ i (by omega), ← hW]; rfl
          · try (replace hb := of_decide_eq_false hb)
            refine TWp.sd [(0, 0), (1, 0), (2, 0), (3, 0), (4, 0), (5, 0), (6, 0), (7, 0), (8, 0), (9, 0), (10, 0), (11, 0)] follows (by kernel_rfl) fun K37 hK37 => ?_
            simp -implicitDefEqProofs (disch := omega) only [seval, go_sem, h2, h5, h8, h9, h10, h11, o0, o10]
            repeat (refine ⟨by omega, ?_⟩)
            refine hK37 _ _ ?_; try (clear hK37; clear K37)
            refine TWp.dk [(0, 0), (1, 0), (2, 0), (3, 0), (4, 0), (5, 0), (6, 0), (8, 0), (11, 0), (12, 0), (15, 0), (16, 0), (17, 0), (18, 0), (19, 0), (21, 0), (23, 0), (26, 0), (27, 0), (7, 1), (9, 1), (10, 0), (13, 0), (14, 0), (20, 0), (22, 1), (24, 1), (25, 0), (28, 0), (29, 0), (30, 1), (31, 2), (32, 0)] follows (by kernel_rfl) fun K38 hK38 => ?_
            simp -implicitDefEqProofs (disch := omega) only [seval, go_sem, h2, h5, h8, h9, h10, h11, o0, o10]
            repeat (refine ⟨by omega, ?_⟩)
            refine c_godownref02_turned ?_
            simp -implicitDefEqProofs (disch := omega) only [seval, go_sem, h2, h5, h8, h9, h10, h11, o0, o10]
            repeat (refine ⟨by omega, ?_⟩)
            refine c_godownref02_turned ?_
            simp -implicitDefEqProofs (disch := omega) only [seval, go_sem, h2, h5, h8, h9, h10, h11, o0, o10]
            repeat (refine ⟨by omega, ?_⟩)
            refine c_godownref02_turned ?_
            simp -implicitDefEqProofs (disch := omega) only [seval, go_sem, h2, h5, h8, h9, h10, h11, o0, o10]
            repeat (refine ⟨by omega, ?_⟩)
            refine c_godownref02_turned ?_
            simp -implicitDefEqProofs (disch := omega) only [seval, go_sem, h2, h5, h8, h9, h10, h11, o0, o10]
            repeat (refine ⟨by omega, ?_⟩)
            refine hK38 _ _ ?_; try (clear hK38; clear K38)
            refine hK31 _ _ ?_; try (clear hK31; clear K31)
            refine TWp.rk fun K39 hK39 => ?_
            simp -implicitDefEqProofs (disch := omega) only [seval, go_sem, h2, h5, h8, h9, h10, h11, o0, o10]
            repeat (refine ⟨by omega, ?_⟩)
            refine hK39 _ _ ?_; try (clear hK39; clear K39)
            refine ⟨n - 1, by omega, i + 1, S'.n, by omega, rfl, ?_, push_self _ _, bn, h9, h2, h5, h8, (setpush_lt bn (by omega)).trans o0, Nat.lt_succ_of_lt bn, (hkeep.set (by omega) _).push' _⟩
            rw [take_succ_getD 0 (show i < W.length by omega), gD_app, hW, word_hi _ i (by omega) (by omega), ← hW]; rfl
        · try (replace hb := of_decide_eq_false hb)
          refine TWp.exit ?_
          refine hK26 _ _ ?_; try (clear hK26; clear K26)
          refine TWp.sd [(0, 0), (1, 0), (2, 0), (3, 0), (4, 0), (5, 0), (6, 0), (7, 0), (8, 0), (9, 0), (10, 0), (11, 0), (12, 0), (13, 0), (14, 0), (15, 0), (16, 0), (17, 0), (18, 0), (19, 0), (20, 0), (21, 0), (22, 0), (23, 0), (24, 0), (25, 0), (26, 0), (27, 0), (28, 0), (29, 0), (30, 0), (31, 0)] follows (by kernel_rfl) fun K40 hK40 => ?_
          simp -implicitDefEqProofs (disch := omega) only [seval, go_sem, h2, h5, h8, h9, h10, h11, o0, o10]
          repeat (refine ⟨by omega, ?_⟩)
          refine hK40 _ _ ?_; try (clear hK40; clear K40)
          refine TWp.seq_k fun K41 hK41 => ?_
          refine TWp.sr fun K42 hK42 => ?_
          simp -implicitDefEqProofs (disch := omega) only [seval, go_sem, h2, h5, h8, h9, h10, h11, o0, o10]
          repeat (refine ⟨by omega, ?_⟩)
          refine hK42 _ _ ?_; try (clear hK42; clear K42)
          refine TWp.block ?_
          refine TWp.loop (fun n T S' => ∃ i a b c d e f g x gw, n + i = 64 ∧ turnUpto ((PP.drop at_).take 64) h i = [a, b, c, d, e, f, g, x] ∧ T 15 = .lit (w32 a) ∧ T 16 = .lit (w32 b) ∧ T 17 = .lit (w32 c) ∧ T 18 = .lit (w32 d) ∧ T 19 = .lit (w32 e) ∧ T 20 = .lit (w32 f) ∧ T 21 = .lit (w32 g) ∧ T 22 = .lit (w32 x) ∧ T 23 = .lit (.int .i64 (i : Int)) ∧ T 10 = .sl gw 1 (gD W) ∧ T 9 = .lit (.int .i64 (at_ : Int)) ∧ T 2 = .ptr S.n 0 ∧ T 5 = .sl g5 1 (dB PP) ∧ T 8 = .sl g8 1 (gD h) ∧ S'.objs S.n = .cells 27 [.sl g1 1 (gD fW), .sl g2 1 (gD kW)] ∧ S.n < S'.n ∧ Keep S S') (64) ?_ ?_
          · have hi64 : i = 64 := by omega
            have hWt : W.take i = W := by rw [hi64]; exact List.take_of_length_le (by omega)
            refine ⟨0, _, _, _, _, _, _, _, _, _, rfl, ?_, rfl, rfl, rfl, rfl, rfl, rfl, rfl, rfl, rfl, by rw [← hWt]; exact h10, h9, h2, h5, h8, o0, bn, hkeep⟩
            clear hK26
            match h, hh with
            | [q0, q1, q2, q3, q4, q5, q6, q7], _ => rfl
          rintro n T S' ⟨i, a, b, c, d, e, f, gg, x, gw, hi, htu, h15, h16, h17, h18, h19, h20, h21, h22, h23, h10, h9, h2, h5, h8, o0, bn, hkeep⟩
          refine TWp.seq_k fun K43 hK43 => ?_
          refine TWp.sr fun K44 hK44 => ?_
          simp -implicitDefEqProofs (disch := omega) only [seval, go_sem, h2, h5, h8, h9, h10, h15, h16, h17, h18, h19, h20, h21, h22, h23, o0]
          repeat (refine ⟨by omega, ?_⟩)
          refine hK44 _ _ ?_; try (clear hK44; clear K44)
          refine TWp.cond_k fun K45 hK45 => ?_
          simp -implicitDefEqProofs (disch := omega) only [seval, go_sem, h2, h5, h8, h9, h10, h15, h16, h17, h18, h19, h20, h21, h22, h23, o0]
          refine hK45 _ (fun hb => ?_) (fun hb => ?_) <;> clear hK45 <;> clear K45
          · try (replace hb := of_decide_eq_true hb)
            refine TWp.skip ?_
            refine hK43 _ _ ?_; try (clear hK43; clear K43)
            refine TWp.seq_k fun K46 hK46 => ?_
            refine TWp.block ?_
            refine TWp.sd [(0, 0), (1, 0), (3, 0), (6, 0), (10, 0), (11, 0), (12, 0), (13, 0), (14, 0), (15, 0), (16, 0), (17, 0), (19, 0), (20, 0), (21, 0), (22, 0), (23, 0), (25, 0), (26, 0), (27, 0), (28, 0), (2, 1), (4, 1), (5, 0), (7, 1), (8, 0), (9, 0), (18, 0), (24, 0), (29, 0), (30, 0)] follows (by kernel_rfl) fun K47 hK47 => ?_
            simp -implicitDefEqProofs (disch := omega) only [seval, go_sem, h2, h5, h8, h9, h10, h15, h16, h17, h18, h19, h20, h21, h22, h23, o0]
            repeat (refine ⟨by omega, ?_⟩)
            refine c_godownref02_turned ?_
            simp -implicitDefEqProofs (disch := omega) only [seval, go_sem, h2, h5, h8, h9, h10, h15, h16, h17, h18, h19, h20, h21, h22, h23, o0]
            repeat (refine ⟨by omega, ?_⟩)
            refine c_godownref02_turned ?_
            simp -implicitDefEqProofs (disch := omega) only [seval, go_sem, h2, h5, h8, h9, h10, h15, h16, h17, h18, h19, h20, h21, h22, h23, o0]
            repeat (refine ⟨by omega, ?_⟩)
            refine c_godownref02_turned ?_
            simp -implicitDefEqProofs (disch := omega) only [seval, go_sem, h2, h5, h8, h9, h10, h15, h16, h17, h18, h19, h20, h21, h22, h23, o0]
            repeat (refine ⟨by omega, ?_⟩)
            refine hK47 _ _ ?_; try (clear hK47; clear K47)
            refine TWp.sr fun K48 hK48 => ?_
            simp -implicitDefEqProofs (disch := omega) only [seval, go_sem, h2, h5, h8, h9, h10, h15, h16, h17, h18, h19, h20, h21, h22, h23, o0]
            repeat (refine ⟨by omega, ?_⟩)
            refine c_godownref02_turned ?_
            simp -implicitDefEqProofs (disch := omega) only [seval, go_sem, h2, h5, h8, h9, h10, h15, h16, h17, h18, h19, h20, h21, h22, h23, o0]
            repeat (refine ⟨by omega, ?_⟩)
            refine c_godownref02_turned ?_
            simp -implicitDefEqProofs (disch := omega) only [seval, go_sem, h2, h5, h8, h9, h10, h15, h16, h17, h18, h19, h20, h21, h22, h23, o0]
            repeat (refine ⟨by omega, ?_⟩)
            refine c_godownref02_turned ?_
            simp -implicitDefEqProofs (disch := omega) only [seval, go_sem, h2, h5, h8, h9, h10, h15, h16, h17, h18, h19, h20, h21, h22, h23, o0]
            repeat (refine ⟨by omega, ?_⟩)
            refine hK48 _ _ ?_; try (clear hK48; clear K48)
            refine TWp.rk fun K49 hK49 => ?_
            simp -implicitDefEqProofs (disch := omega) only [seval, go_sem, h2, h5, h8, h9, h10, h15, h16, h17, h18, h19, h20, h21, h22, h23, o0]
            repeat (refine ⟨by omega, ?_⟩)
            refine hK49 _ _ ?_; try (clear hK49; clear K49)
            refine hK46 _ _ ?_; try (clear hK46; clear K46)
            refine TWp.rk fun K50 hK50 => ?_
            simp -implicitDefEqProofs (disch := omega) only [seval, go_sem, h2, h5, h8, h9, h10, h15, h16, h17, h18, h19, h20, h21, h22, h23, o0]
            repeat (refine ⟨by omega, ?_⟩)
            refine hK50 _ _ ?_; try (clear hK50; clear K50)
            refine ⟨n - 1, by omega, i + 1, _, _, _, _, _, _, _, _, gw, by omega, turn_ref _ _ _ _ _ _ _ _ _ _ _ htu, ?_, rfl, rfl, rfl, ?_, rfl, rfl, rfl, rfl, h10, h9, h2, h5, h8, o0, bn, hkeep⟩
            · rw [← hW]; rfl
            · rw [← hW]; rfl
          · try (replace hb := of_decide_eq_false hb)
            refine TWp.exit ?_
            refine hK41 _ _ ?_; try (clear hK41; clear K41)
            refine TWp.dk [(0, 0), (1, 0), (2, 0), (3, 0), (4, 0), (5, 0), (6, 0), (7, 0), (8, 0), (9, 0), (10, 0), (11, 0), (12, 0), (13, 0), (14, 0), (15, 0), (16, 0), (17, 0), (18, 0), (19, 0), (20, 0), (21, 0), (22, 0), (23, 0), (24, 0), (25, 0), (26, 0), (27, 0), (28, 0), (29, 0), (30, 0), (31, 0), (32, 0), (33, 0), (34, 0), (35, 0), (36, 0), (37, 0), (38, 0), (39, 0), (40, 2), (41, 0)] follows (by kernel_rfl) fun K51 hK51 => ?_
            simp -implicitDefEqProofs (disch := omega) only [seval, go_sem, h2, h5, h8, h9, h10, h15, h16, h17, h18, h19, h20, h21, h22, h23, o0]
            repeat (refine ⟨by omega, ?_⟩)
            refine hK51 _ _ ?_; try (clear hK51; clear K51)
            refine hK24 _ _ ?_; try (clear hK24; clear K24)
            refine TWp.rk fun K52 hK52 => ?_
            simp -implicitDefEqProofs (disch := omega) only [seval, go_sem, h2, h5, h8, h9, h10, h15, h16, h17, h18, h19, h20, h21, h22, h23, o0]
            repeat (refine ⟨by omega, ?_⟩)
            refine hK52 _ _ ?_; try (clear hK52; clear K52)
            obtain ⟨m3, rfl⟩ : ∃ m3, n3 = m3 + 1 := ⟨n3 - 1, by omega⟩
            have hi64 : i = 64 := by omega
            subst hi64
            refine ⟨m3, by omega, at_ + 64, _, g5, .full, by omega, turn_len h ((PP.drop at_).take 64) hh, ?_, rfl, h2, h5, ?_, o0, bn, hkeep⟩
            · rw [← hsum, sumN, List.drop_drop]
            · rw [add_ref h _ hh _ _ _ _ _ _ _ _ htu]; rfl
      · try (replace hb := of_decide_eq_false hb)
        refine TWp.exit ?_
        refine hK19 _ _ ?_; try (clear hK19; clear K19)
        refine TWp.sr fun K53 hK53 => ?_
        simp -implicitDefEqProofs (disch := omega) only [seval, go_sem, h2, h5, h8, h9, o0]
        repeat (refine ⟨by omega, ?_⟩)
        refine hK53 _ _ ?_; try (clear hK53; clear K53)
        refine TWp.seq_k fun K54 hK54 => ?_
        refine TWp.sr fun K55 hK55 => ?_
        simp -implicitDefEqProofs (disch := omega) only [seval, go_sem, h2, h5, h8, h9, o0]
        repeat (refine ⟨by omega, ?_⟩)
        refine hK55 _ _ ?_; try (clear hK55; clear K55)
        refine TWp.block ?_
        refine TWp.asRow 26 1 rfl (.inl rfl) ?_
        refine TWp.loop (fun n T S' => ∃ i k, n + i = 8 ∧ T 8 = .sl g8 1 (gD h) ∧ T 27 = .lit (.int .i64 (i : Int)) ∧ T 26 = .sl (.own k) 1 (dB (wordsB (h.take i))) ∧ S'.objs k = .lin ∧ S.n ≤ k ∧ Keep S S') (8) ?_ ?_
        · exact ⟨0, S'.n, rfl, h8, rfl, rfl, push_self _ _, by omega, hkeep.push' _⟩
        rintro n T S' ⟨i, k, hi, h8, h27, h26, o26, b26, hkeep⟩
        have hwl := wordsB_len (h.take i)
        have hil : (h.take i).length = min i h.length := List.length_take
        refine TWp.seq_k fun K56 hK56 => ?_
        refine TWp.sr fun K57 hK57 => ?_
        simp -implicitDefEqProofs (disch := omega) only [seval, go_sem, h8, h26, h27, o26]
        repeat (refine ⟨by omega, ?_⟩)
        refine hK57 _ _ ?_; try (clear hK57; clear K57)
        refine TWp.cond_k fun K58 hK58 => ?_
        simp -implicitDefEqProofs (disch := omega) only [seval, go_sem, h8, h26, h27, o26]
        refine hK58 _ (fun hb => ?_) (fun hb => ?_) <;> clear hK58 <;> clear K58
        · try (replace hb := of_decide_eq_true hb)
          refine TWp.skip ?_
          refine hK56 _ _ ?_; try (clear hK56; clear K56)
          refine TWp.seq_k fun K59 hK59 => ?_
          refine TWp.block ?_
          refine TWp.dk [(0, 0), (1, 0), (2, 0), (3, 0), (4, 0), (5, 0), (6, 0), (7, 0), (8, 0), (9, 0), (10, 0), (11, 0), (12, 0), (13, 0), (14, 0), (15, 0), (16, 0), (17, 0), (18, 0), (19, 0), (20, 0), (21, 0), (22, 0), (23, 0), (24, 1), (25, 2), (26, 0)] follows (by kernel_rfl) fun K60 hK60 => ?_
          simp -implicitDefEqProofs (disch := omega) only [seval, go_sem, h8, h26, h27, o26]
          repeat (refine ⟨by omega, ?_⟩)
          refine hK60 _ _ ?_; try (clear hK60; clear K60)
          refine hK59 _ _ ?_; try (clear hK59; clear K59)
          refine TWp.rk fun K61 hK61 => ?_
          simp -implicitDefEqProofs (disch := omega) only [seval, go_sem, h8, h26, h27, o26]
          repeat (refine ⟨by omega, ?_⟩)
          refine hK61 _ _ ?_; try (clear hK61; clear K61)
          refine ⟨n - 1, by omega, i + 1, S'.n, by omega, h8, rfl, ?_, push_self _ _, hkeep.1, (hkeep.set b26 _).push' _⟩
          rw [wordsB_snoc h i (by omega), dB_app]; rfl
        · try (replace hb := of_decide_eq_false hb)
          refine TWp.exit ?_
          refine hK54 _ _ ?_; try (clear hK54; clear K54)
          refine TWp.sr fun K62 hK62 => ?_
          simp -implicitDefEqProofs (disch := omega) only [seval, go_sem, h8, h26, h27, o26]
          repeat (refine ⟨by omega, ?_⟩)
          refine hK62 _ _ ?_; try (clear hK62; clear K62)
          refine TWp.ret ⟨.inr rfl, [_], ⟨rfl, trivial⟩, ?_⟩
          have hn30 : n3 = 0 := by omega
          subst hn30
          refine ⟨k, ?_, b26, o26, hkeep⟩
          have hh8 : i = 8 := by omega
          have hht : h.take i = h := List.take_of_length_le (by omega)
          rw [sha, ← hPP, ← hsum]; rfl
theorem c_godownref02_Sum {S : TS} {g1 g2 g : Tag} {p : List (BitVec 8)} {K : TV → TS → Prop} (hK : K (.sl (.own S.n) 1 (dB (sha p))) (S.push .lin)) (hp : p.length ≤ 1000000 := by omega) : TCall env 50 [.agg [.sl g1 1 (gD fW), .sl g2 1 (gD kW)], .sl g 1 (dB p)] S K :=
  (c_godownref02_Sum_ok S g1 g2 g p hp).row.mono fun t S' ⟨h1, h2⟩ => by rw [h1, h2]; exact hK
end Go.Proofs.YtlljknmojafkoaaGreatDoor
namespace Go.Proofs.YtlljknmojafkoaaGreatDoor
open Go.RowKit TL
def foldAt (s : List (BitVec 8)) : Nat → List (BitVec 8)
  | 0 => List.replicate 20 0
  | i + 1 => (foldAt s i).set (i % 20) ((foldAt s i).getD (i % 20) 0 ^^^ s.getD i 0)
theorem foldAt_len (s : List (BitVec 8)) : ∀ i, (foldAt s i).length = 20
  | 0 => by simp [foldAt]
  | i + 1 => by simp [foldAt, foldAt_len s i]
theorem foldAt_get (s : List (BitVec 8)) : ∀ m, m ≤ 32 → ∀ j, j < 20 → (foldAt s m).getD j 0 = (if j < m then s.getD j 0 else 0) ^^^ (if j + 20 < m then s.getD (j + 20) 0 else 0)
  | 0, _, j, hj => by
    rw [if_neg (by omega), if_neg (by omega), foldAt, List.getD_eq_getElem?_getD, List.getElem?_replicate]
    simp [hj]
  | m + 1, hm, j, hj => by
    have hl := foldAt_len s m
    have ih := foldAt_get s m (by omega)
    simp only [foldAt]
    by_cases hjm : j = m % 20
    · subst hjm
      rw [getD_set_eq' _ _ _ _ (by omega), ih _ hj]
      rcases Nat.lt_or_ge m 20 with h | h
      · have : m % 20 = m := Nat.mod_eq_of_lt h
        rw [this, if_neg (by omega), if_neg (by omega), if_pos (by omega), if_neg (by omega)]
        simp
      · have : m % 20 + 20 = m := by omega
        rw [this, if_pos (by omega), if_neg (by omega), if_pos (by omega), if_pos (by omega)]
        simp
    · rw [getD_set_ne' _ _ _ _ _ hjm, ih _ hj]
      have e1 : (j < m + 1) = (j < m) := by apply propext; omega
      have e2 : (j + 20 < m + 1) = (j + 20 < m) := by apply propext; omega
      simp only [e1, e2]
def fold20 (s : List (BitVec 8)) : List (BitVec 8) := foldAt s 32
def fb (s : List (BitVec 8)) (i : Nat) : BitVec 8 := if i + 20 < 32 then s.getD i 0 ^^^ s.getD (i + 20) 0 else s.getD i 0
def fbs (s : List (BitVec 8)) : Nat → List (BitVec 8)
  | 0 => []
  | i + 1 => fbs s i ++ [fb s i]
theorem fbs_len (s : List (BitVec 8)) : ∀ i, (fbs s i).length = i
  | 0 => rfl
  | i + 1 => by simp [fbs, fbs_len s i]
theorem fbs_get (s : List (BitVec 8)) : ∀ m j, j < m → (fbs s m).getD j 0 = fb s j
  | 0, j, h => by omega
  | m + 1, j, h => by
    have hl := fbs_len s m
    rw [fbs]
    rcases Nat.lt_or_ge j m with h1 | h1
    · rw [← fbs_get s m j h1]; simp [List.getD_eq_getElem?_getD, List.getElem?_append_left (show j < (fbs s m).length by omega)]
    · obtain rfl : j = m := by omega
      simp [List.getD_eq_getElem?_getD, List.getElem?_append_right (show (fbs s j).length ≤ j by omega), hl]
theorem ext_getD {α : Type} {a b : List α} (d : α) (hl : a.length = b.length) (h : ∀ i, i < a.length → a.getD i d = b.getD i d) : a = b := by
  apply List.ext_getElem hl
  intro i h1 h2
  have := h i h1
  simpa [List.getD_eq_getElem?_getD, List.getElem?_eq_getElem h1, List.getElem?_eq_getElem h2] using this
theorem fold20_fbs (s : List (BitVec 8)) : fold20 s = fbs s 20 := by
  refine ext_getD 0 (by rw [fold20, foldAt_len, fbs_len]) fun i hi => ?_
  rw [fold20, foldAt_len] at hi
  rw [fold20, foldAt_get s 32 (by omega) i hi, fbs_get s 20 i hi, fb, if_pos (by omega)]
  by_cases h : i + 20 < 32
  · rw [if_pos h, if_pos h]
  · rw [if_neg h, if_neg h]; simp
theorem fold20_len (s : List (BitVec 8)) : (fold20 s).length = 20 := foldAt_len s 32
set_option maxRecDepth 8000 in
set_option maxHeartbeats 1000000 in
theorem c_hash_Short_ok (S : TS) (g : Tag) (p : List (BitVec 8)) (hp : p.length ≤ 1000000) : TCall env 190 [.sl g 1 (dB p)] S fun r S' => r = .sl .none 1 (dB (fold20 (sha p))) ∧ Keep S S' := by
  have hs := sha_len p
  refine TCall.of 25 [.tmp 2] Tryz.func190 rfl rfl rfl rfl (by kernel_rfl) rfl ?_
  refine TWp.sr fun K0 hK0 => ?_
  simp -implicitDefEqProofs (disch := omega) only [seval, go_sem]
  repeat (refine ⟨by omega, ?_⟩)
  refine hK0 _ _ ?_; try (clear hK0; clear K0)
  refine TWp.sr fun K1 hK1 => ?_
  simp -implicitDefEqProofs (disch := omega) only [seval, go_sem]
  repeat (refine ⟨by omega, ?_⟩)
  refine hK1 _ _ ?_; try (clear hK1; clear K1)
  refine TWp.seq_k fun K2 hK2 => ?_
  refine TWp.sr fun K3 hK3 => ?_
  simp -implicitDefEqProofs (disch := omega) only [seval, go_sem]
  repeat (refine ⟨by omega, ?_⟩)
  refine c_hash_Sum ?_
  simp -implicitDefEqProofs (disch := omega) only [seval, go_sem]
  repeat (refine ⟨by omega, ?_⟩)
  refine hK3 _ _ ?_; try (clear hK3; clear K3)
  refine TWp.block ?_
  refine TWp.loop (fun n T S' => ∃ i, n + i = 32 ∧ T 3 = .vs S.n 0 1 20 ∧ T 8 = .sl (.own (S.n + 1)) 1 (dB (sha p)) ∧ T 9 = .lit (.int .i64 (32 : Int)) ∧ T 10 = .lit (.int .i64 (i : Int)) ∧ S' = ((S.push (.cells 5 (cellsD (dB (foldAt (sha p) i))))).push .lin)) (32) ?_ ?_
  · exact ⟨0, rfl, rfl, rfl, by simp [upd, hs], rfl, rfl⟩
  rintro n T S' ⟨i, hi, h3, h8, h9, h10, rfl⟩
  have hfl := foldAt_len (sha p) i
  refine TWp.sr fun K4 hK4 => ?_
  simp -implicitDefEqProofs (disch := omega) only [seval, go_sem, h3, h8, h9, h10]
  repeat (refine ⟨by omega, ?_⟩)
  refine hK4 _ _ ?_; try (clear hK4; clear K4)
  refine TWp.seq_k fun K5 hK5 => ?_
  refine TWp.cond_k fun K6 hK6 => ?_
  simp -implicitDefEqProofs (disch := omega) only [seval, go_sem, h3, h8, h9, h10]
  refine hK6 _ (fun hb => ?_) (fun hb => ?_) <;> clear hK6 <;> clear K6
  · try (replace hb := of_decide_eq_true hb)
    refine TWp.skip ?_
    refine hK5 _ _ ?_; try (clear hK5; clear K5)
    refine TWp.seq_k fun K7 hK7 => ?_
    refine TWp.block ?_
    refine TWp.sr fun K8 hK8 => ?_
    simp -implicitDefEqProofs (disch := omega) only [seval, go_sem, h3, h8, h9, h10]
    repeat (refine ⟨by omega, ?_⟩)
    refine hK8 _ _ ?_; try (clear hK8; clear K8)
    refine TWp.rk fun K9 hK9 => ?_
    simp -implicitDefEqProofs (disch := omega) only [seval, go_sem, h3, h8, h9, h10]
    repeat (refine ⟨by omega, ?_⟩)
    refine hK9 _ _ ?_; try (clear hK9; clear K9)
    refine hK7 _ _ ?_; try (clear hK7; clear K7)
    refine TWp.rk fun K10 hK10 => ?_
    simp -implicitDefEqProofs (disch := omega) only [seval, go_sem, h3, h8, h9, h10]
    repeat (refine ⟨by omega, ?_⟩)
    refine hK10 _ _ ?_; try (clear hK10; clear K10)
    refine ⟨n - 1, by omega, i + 1, by omega, h3, h8, h9, rfl, ?_⟩
    rfl
  · try (replace hb := of_decide_eq_false hb)
    refine TWp.exit ?_
    refine hK2 _ _ ?_; try (clear hK2; clear K2)
    refine TWp.freeze 3 (ag := false) (ds := dB (foldAt (sha p) i)) h3 ?_ ?_
    · have hfl := foldAt_len (sha p) i
      simp -implicitDefEqProofs (disch := omega) only [seval, go_sem, hfl]
    refine TWp.sr fun K11 hK11 => ?_
    simp -implicitDefEqProofs (disch := omega) only [seval, go_sem, h3, h8, h9, h10]
    repeat (refine ⟨by omega, ?_⟩)
    refine hK11 _ _ ?_; try (clear hK11; clear K11)
    refine TWp.ret ⟨.inr rfl, [_], ⟨rfl, trivial⟩, ?_⟩
    have hi32 : i = 32 := by omega
    subst hi32
    refine ⟨rfl, ?_⟩
    exact (Keep.push S _).push' _
theorem ren_slN (n : Nat) (L : List Nat) (s : Nat) (xs : List D) : Ren n L (.sl .none s xs) (.sl .none s xs) := .slN .none s xs
theorem c_hash_Short {S : TS} {g : Tag} {p : List (BitVec 8)} {K : TV → TS → Prop} (hK : K (.sl .none 1 (dB (fold20 (sha p)))) S) (hp : p.length ≤ 1000000 := by omega) : TCall env 190 [.sl g 1 (dB p)] S K :=
  (TCall.pure (c_hash_Short_ok S g p hp) (ren_slN _ _ _ _)).mono fun t S' ⟨h1, h2⟩ => by rw [h1, h2]; exact hK
set_option maxRecDepth 8000 in
set_option maxHeartbeats 1000000 in
theorem c_godownref02_Short_ok (S : TS) (g1 g2 g : Tag) (p : List (BitVec 8)) (hp : p.length ≤ 1000000) : TCall env 53 [.agg [.sl g1 1 (gD fW), .sl g2 1 (gD kW)], .sl g 1 (dB p)] S fun r S' => ∃ k, r = .sl (.own k) 1 (dB (fold20 (sha p))) ∧ S.n ≤ k ∧ S'.objs k = .lin ∧ Keep S S' := by
  have hs := sha_len p
  refine TCall.of 35 [.tmp 4] Tryz.func53 rfl rfl rfl rfl (by kernel_rfl) rfl ?_
  refine TWp.sr fun K0 hK0 => ?_
  simp -implicitDefEqProofs (disch := omega) only [seval, go_sem]
  repeat (refine ⟨by omega, ?_⟩)
  refine hK0 _ _ ?_; try (clear hK0; clear K0)
  refine TWp.sr fun K1 hK1 => ?_
  simp -implicitDefEqProofs (disch := omega) only [seval, go_sem]
  repeat (refine ⟨by omega, ?_⟩)
  refine c_godownref02_Sum ?_
  simp -implicitDefEqProofs (disch := omega) only [seval, go_sem]
  repeat (refine ⟨by omega, ?_⟩)
  refine hK1 _ _ ?_; try (clear hK1; clear K1)
  refine TWp.sr fun K2 hK2 => ?_
  simp -implicitDefEqProofs (disch := omega) only [seval, go_sem]
  repeat (refine ⟨by omega, ?_⟩)
  refine hK2 _ _ ?_; try (clear hK2; clear K2)
  refine TWp.seq_k fun K3 hK3 => ?_
  refine TWp.sr fun K4 hK4 => ?_
  simp -implicitDefEqProofs (disch := omega) only [seval, go_sem]
  repeat (refine ⟨by omega, ?_⟩)
  refine hK4 _ _ ?_; try (clear hK4; clear K4)
  refine TWp.block ?_
  refine TWp.asRow 6 1 rfl (.inl rfl) ?_
  refine TWp.loop (fun n T S' => ∃ i k gs, n + i = 20 ∧ T 5 = .sl gs 1 (dB (sha p)) ∧ T 7 = .lit (.int .i64 (i : Int)) ∧ T 6 = .sl (.own k) 1 (dB (fbs (sha p) i)) ∧ S.n ≤ k ∧ S'.objs k = .lin ∧ Keep S S') (20) ?_ ?_
  · exact ⟨0, S.n + 1 + 1, _, rfl, rfl, rfl, rfl, by omega, push_self _ _, ((Keep.push S _).push' _).push' _⟩
  rintro n T S' ⟨i, k, gs, hi, h5, h7, h6, hk, o6, hkeep⟩
  have hfl := fbs_len (sha p) i
  refine TWp.seq_k fun K5 hK5 => ?_
  refine TWp.sr fun K6 hK6 => ?_
  simp -implicitDefEqProofs (disch := omega) only [seval, go_sem, h5, h7, h6, o6]
  repeat (refine ⟨by omega, ?_⟩)
  refine hK6 _ _ ?_; try (clear hK6; clear K6)
  refine TWp.cond_k fun K7 hK7 => ?_
  simp -implicitDefEqProofs (disch := omega) only [seval, go_sem, h5, h7, h6, o6]
  refine hK7 _ (fun hb => ?_) (fun hb => ?_) <;> clear hK7 <;> clear K7
  · try (replace hb := of_decide_eq_true hb)
    refine TWp.skip ?_
    refine hK5 _ _ ?_; try (clear hK5; clear K5)
    refine TWp.seq_k fun K8 hK8 => ?_
    refine TWp.block ?_
    refine TWp.sr fun K9 hK9 => ?_
    simp -implicitDefEqProofs (disch := omega) only [seval, go_sem, h5, h7, h6, o6]
    repeat (refine ⟨by omega, ?_⟩)
    refine hK9 _ _ ?_; try (clear hK9; clear K9)
    refine TWp.seq_k fun K10 hK10 => ?_
    refine TWp.sr fun K11 hK11 => ?_
    simp -implicitDefEqProofs (disch := omega) only [seval, go_sem, h5, h7, h6, o6]
    repeat (refine ⟨by omega, ?_⟩)
    refine hK11 _ _ ?_; try (clear hK11; clear K11)
    refine TWp.cond_k fun K12 hK12 => ?_
    simp -implicitDefEqProofs (disch := omega) only [seval, go_sem, h5, h7, h6, o6]
    refine hK12 _ (fun hb => ?_) (fun hb => ?_) <;> clear hK12 <;> clear K12
    · try (replace hb := of_decide_eq_true hb)
      refine TWp.rk fun K13 hK13 => ?_
      simp -implicitDefEqProofs (disch := omega) only [seval, go_sem, h5, h7, h6, o6]
      repeat (refine ⟨by omega, ?_⟩)
      refine hK13 _ _ ?_; try (clear hK13; clear K13)
      refine hK10 _ _ ?_; try (clear hK10; clear K10)
      refine TWp.rk fun K14 hK14 => ?_
      simp -implicitDefEqProofs (disch := omega) only [seval, go_sem, h5, h7, h6, o6]
      repeat (refine ⟨by omega, ?_⟩)
      refine hK14 _ _ ?_; try (clear hK14; clear K14)
      refine hK8 _ _ ?_; try (clear hK8; clear K8)
      refine TWp.rk fun K15 hK15 => ?_
      simp -implicitDefEqProofs (disch := omega) only [seval, go_sem, h5, h7, h6, o6]
      repeat (refine ⟨by omega, ?_⟩)
      refine hK15 _ _ ?_; try (clear hK15; clear K15)
      refine ⟨n - 1, by omega, i + 1, S'.n, gs, by omega, h5, rfl, ?_, hkeep.1, push_self _ _, (hkeep.set hk _).push' _⟩
      show TV.sl _ _ _ = _
      rw [fbs, dB_app, fb, if_pos (by omega)]; rfl
    · try (replace hb := of_decide_eq_false hb)
      refine TWp.skip ?_
      refine hK10 _ _ ?_; try (clear hK10; clear K10)
      refine TWp.rk fun K16 hK16 => ?_
      simp -implicitDefEqProofs (disch := omega) only [seval, go_sem, h5, h7, h6, o6]
      repeat (refine ⟨by omega, ?_⟩)
      refine hK16 _ _ ?_; try (clear hK16; clear K16)
      refine hK8 _ _ ?_; try (clear hK8; clear K8)
      refine TWp.rk fun K17 hK17 => ?_
      simp -implicitDefEqProofs (disch := omega) only [seval, go_sem, h5, h7, h6, o6]
      repeat (refine ⟨by omega, ?_⟩)
      refine hK17 _ _ ?_; try (clear hK17; clear K17)
      refine ⟨n - 1, by omega, i + 1, S'.n, gs, by omega, h5, rfl, ?_, hkeep.1, push_self _ _, (hkeep.set hk _).push' _⟩
      show TV.sl _ _ _ = _
      rw [fbs, dB_app, fb, if_neg (by omega)]; rfl
  · try (replace hb := of_decide_eq_false hb)
    refine TWp.exit ?_
    refine hK3 _ _ ?_; try (clear hK3; clear K3)
    refine TWp.sr fun K18 hK18 => ?_
    simp -implicitDefEqProofs (disch := omega) only [seval, go_sem, h5, h7, h6, o6]
    repeat (refine ⟨by omega, ?_⟩)
    refine hK18 _ _ ?_; try (clear hK18; clear K18)
    refine TWp.ret ⟨.inr rfl, [_], ⟨rfl, trivial⟩, ?_⟩
    have hi20 : i = 20 := by omega
    subst hi20
    exact ⟨k, by rw [fold20_fbs]; rfl, hk, o6, hkeep⟩
theorem c_godownref02_Short {S : TS} {g1 g2 g : Tag} {p : List (BitVec 8)} {K : TV → TS → Prop} (hK : K (.sl (.own S.n) 1 (dB (fold20 (sha p)))) (S.push .lin)) (hp : p.length ≤ 1000000 := by omega) : TCall env 53 [.agg [.sl g1 1 (gD fW), .sl g2 1 (gD kW)], .sl g 1 (dB p)] S K :=
  (c_godownref02_Short_ok S g1 g2 g p hp).row.mono fun t S' ⟨h1, h2⟩ => by rw [h1, h2]; exact hK
end Go.Proofs.YtlljknmojafkoaaGreatDoor
namespace Go.Proofs.YtlljknmojafkoaaGreatDoor
open Go.RowKit TL
def okc (c : BitVec 8) : Bool := decide (97 ≤ c.toNat ∧ c.toNat ≤ 122) || decide (48 ≤ c.toNat ∧ c.toNat ≤ 57) || decide (c.toNat = 43) || decide (c.toNat = 45) || decide (c.toNat = 46) || decide (c.toNat = 95)
def rightS (s : Bs) : Bool := decide (1 ≤ s.length) && decide (s.length ≤ 40) && decide ((s.getD 0 0#8).toNat ≠ 46) && s.all okc
theorem take_all {α : Type} {p : α → Bool} {s : List α} {i : Nat} {d : α} (h : (s.take i).all p = true) (hi : i < s.length) (hp : p (s.getD i d) = true) : (s.take (i + 1)).all p = true := by
  rw [List.take_add_one, List.all_append, h, Bool.true_and]
  rw [List.getElem?_eq_getElem hi]
  rw [List.getD_eq_getElem?_getD, List.getElem?_eq_getElem hi] at hp
  simpa using hp
theorem all_not {α : Type} {p : α → Bool} {s : List α} {i : Nat} {d : α} (hi : i < s.length) (hp : p (s.getD i d) = false) : s.all p = false := by
  rw [List.getD_eq_getElem?_getD, List.getElem?_eq_getElem hi] at hp
  rw [List.all_eq_false]
  exact ⟨_, List.getElem_mem hi, by simpa using hp⟩
theorem okc_yes {c : BitVec 8} (h : (97 ≤ c.toNat ∧ c.toNat ≤ 122) ∨ (48 ≤ c.toNat ∧ c.toNat ≤ 57) ∨ c.toNat = 43 ∨ c.toNat = 45 ∨ c.toNat = 46 ∨ c.toNat = 95) : okc c = true := by
  simp only [okc, Bool.or_eq_true, decide_eq_true_eq]; omega
theorem okc_no {c : BitVec 8} (h : ¬ ((97 ≤ c.toNat ∧ c.toNat ≤ 122) ∨ (48 ≤ c.toNat ∧ c.toNat ≤ 57) ∨ c.toNat = 43 ∨ c.toNat = 45 ∨ c.toNat = 46 ∨ c.toNat = 95)) : okc c = false := by
  rw [Bool.eq_false_iff]
  simp only [okc, ne_eq, Bool.or_eq_true, decide_eq_true_eq]; omega
theorem right_no {s : Bs} (h : s.length < 1 ∨ 40 < s.length ∨ (s.getD 0 0#8).toNat = 46) : rightS s = false := by
  rw [Bool.eq_false_iff]
  simp only [rightS, ne_eq, Bool.and_eq_true, decide_eq_true_eq]; omega
theorem right_bad {s : Bs} {i : Nat} (hi : i < s.length) (h : okc (s.getD i 0#8) = false) : rightS s = false := by
  rw [rightS, all_not hi h, Bool.and_false]
theorem right_yes {s : Bs} (h1 : 1 ≤ s.length) (h2 : s.length ≤ 40) (h3 : (s.getD 0 0#8).toNat ≠ 46) (h4 : s.all okc = true) : rightS s = true := by
  simp only [rightS, Bool.and_eq_true, decide_eq_true_eq]; exact ⟨⟨⟨h1, h2⟩, h3⟩, h4⟩
theorem rb {b c : Bool} {S S' : TS} (h : c = b) (hs : S' = S) : TV.lit (.bool b) = .lit (.bool c) ∧ S' = S := by rw [h]; exact ⟨rfl, hs⟩
set_option maxRecDepth 8000 in
set_option maxHeartbeats 1000000 in
theorem c_godownref07_Right_ok (S : TS) (s : Bs) : TCall env 33 [.lit (.string (st s))] S fun r S' => r = .lit (.bool (rightS s)) ∧ S' = S := by
  refine TCall.of 58 [.tmp 2] Tryz.func33 rfl rfl rfl rfl (by kernel_rfl) rfl ?_
  refine TWp.sr fun K0 hK0 => ?_
  simp -implicitDefEqProofs (disch := omega) only [seval, go_sem]
  repeat (with_reducible refine ⟨by first | omega | exact Keep.push _ _ | exact KpL.push _ _, ?_⟩)
  refine hK0 _ _ ?_; try (clear hK0; clear K0)
  refine TWp.seq_k fun K1 hK1 => ?_
  refine TWp.sr fun K2 hK2 => ?_
  simp -implicitDefEqProofs (disch := omega) only [seval, go_sem]
  repeat' (first | with_reducible refine ⟨by first | omega | exact Keep.push _ _ | exact KpL.push _ _, ?_⟩ | (refine brT_split (fun hb => ?_) (fun hb => ?_) <;> (have hb' := hb; try simp only [decide_eq_true_eq, decide_eq_false_iff_not] at hb') <;> simp -implicitDefEqProofs (disch := omega) only [seval, go_sem, hb]))
  all_goals
    refine hK2 _ _ ?_; try (clear hK2; clear K2)
    refine TWp.cond_k fun K3 hK3 => ?_
    simp -implicitDefEqProofs (disch := omega) only [seval, go_sem]
    refine hK3 _ (fun hb => ?_) (fun hb => ?_) <;> clear hK3 <;> clear K3
    · try (replace hb := of_decide_eq_true hb)
      try (exact absurd hb (by decide))
      all_goals
        refine TWp.sr fun K4 hK4 => ?_
        simp -implicitDefEqProofs (disch := omega) only [seval, go_sem]
        repeat (with_reducible refine ⟨by first | omega | exact Keep.push _ _ | exact KpL.push _ _, ?_⟩)
        refine hK4 _ _ ?_; try (clear hK4; clear K4)
        refine TWp.ret ⟨.inr rfl, [_], ⟨rfl, trivial⟩, ?_⟩
        exact rb (right_no (by omega)) rfl
    · try (replace hb := of_decide_eq_false hb)
      try (exact absurd hb (by decide))
      all_goals
        refine TWp.skip ?_
        refine hK1 _ _ ?_; try (clear hK1; clear K1)
        refine TWp.seq_k fun K5 hK5 => ?_
        refine TWp.sr fun K6 hK6 => ?_
        simp -implicitDefEqProofs (disch := omega) only [seval, go_sem]
        repeat (with_reducible refine ⟨by first | omega | exact Keep.push _ _ | exact KpL.push _ _, ?_⟩)
        refine hK6 _ _ ?_; try (clear hK6; clear K6)
        refine TWp.block ?_
        refine TWp.loop (fun n T S' => ∃ i : Nat, n + i = s.length ∧ T 0 = .lit (.string (st s)) ∧ T 3 = .lit (.int .i64 (i : Int)) ∧ (s.take i).all okc = true ∧ S' = S) (s.length) ?_ ?_
        · exact ⟨0, rfl, rfl, rfl, rfl, rfl⟩
        rintro n T S' ⟨i, hi, h0, h3, ha, hS⟩
        refine TWp.seq_k fun K7 hK7 => ?_
        refine TWp.sr fun K8 hK8 => ?_
        simp -implicitDefEqProofs (disch := omega) only [seval, go_sem, h0, h3]
        repeat (with_reducible refine ⟨by first | omega | exact Keep.push _ _ | exact KpL.push _ _, ?_⟩)
        refine hK8 _ _ ?_; try (clear hK8; clear K8)
        refine TWp.cond_k fun K9 hK9 => ?_
        simp -implicitDefEqProofs (disch := omega) only [seval, go_sem, h0, h3]
        refine hK9 _ (fun hb => ?_) (fun hb => ?_) <;> clear hK9 <;> clear K9
        · try (replace hb := of_decide_eq_true hb)
          try (exact absurd hb (by decide))
          all_goals
            refine TWp.skip ?_
            refine hK7 _ _ ?_; try (clear hK7; clear K7)
            refine TWp.seq_k fun K10 hK10 => ?_
            refine TWp.block ?_
            refine TWp.sr fun K11 hK11 => ?_
            simp -implicitDefEqProofs (disch := omega) only [seval, go_sem, h0, h3]
            repeat (with_reducible refine ⟨by first | omega | exact Keep.push _ _ | exact KpL.push _ _, ?_⟩)
            refine hK11 _ _ ?_; try (clear hK11; clear K11)
            refine TWp.sr fun K12 hK12 => ?_
            simp -implicitDefEqProofs (disch := omega) only [seval, go_sem, h0, h3]
            repeat' (first | with_reducible refine ⟨by first | omega | exact Keep.push _ _ | exact KpL.push _ _, ?_⟩ | (refine brT_split (fun hb => ?_) (fun hb => ?_) <;> (have hb' := hb; try simp only [decide_eq_true_eq, decide_eq_false_iff_not] at hb') <;> simp -implicitDefEqProofs (disch := omega) only [seval, go_sem, hb, h0, h3]))
            all_goals
              refine hK12 _ _ ?_; try (clear hK12; clear K12)
              refine TWp.cond_k fun K13 hK13 => ?_
              simp -implicitDefEqProofs (disch := omega) only [seval, go_sem, h0, h3]
              refine hK13 _ (fun hb => ?_) (fun hb => ?_) <;> clear hK13 <;> clear K13
              · try (replace hb := of_decide_eq_true hb)
                try (exact absurd hb (by decide))
                all_goals
                  refine TWp.sr fun K14 hK14 => ?_
                  simp -implicitDefEqProofs (disch := omega) only [seval, go_sem, h0, h3]
                  repeat (with_reducible refine ⟨by first | omega | exact Keep.push _ _ | exact KpL.push _ _, ?_⟩)
                  refine hK14 _ _ ?_; try (clear hK14; clear K14)
                  refine TWp.ret ⟨.inr rfl, [_], ⟨rfl, trivial⟩, ?_⟩
                  try (simp only [Bool.not_eq_true', decide_eq_false_iff_not, Bool.not_eq_false', decide_eq_true_eq] at hb)
                  exact rb (right_bad (i := i) (by omega) (okc_no (by omega))) hS
              · try (replace hb := of_decide_eq_false hb)
                try (exact absurd hb (by decide))
                all_goals
                  refine TWp.skip ?_
                  refine hK10 _ _ ?_; try (clear hK10; clear K10)
                  refine TWp.rk fun K15 hK15 => ?_
                  simp -implicitDefEqProofs (disch := omega) only [seval, go_sem, h0, h3]
                  repeat (with_reducible refine ⟨by first | omega | exact Keep.push _ _ | exact KpL.push _ _, ?_⟩)
                  refine hK15 _ _ ?_; try (clear hK15; clear K15)
                  try (simp only [Bool.not_eq_true', decide_eq_false_iff_not, Bool.not_eq_false', decide_eq_true_eq] at hb)
                  exact ⟨n - 1, by omega, i + 1, by omega, h0, rfl, take_all (d := 0#8) ha (by omega) (okc_yes (by omega)), hS⟩
        · try (replace hb := of_decide_eq_false hb)
          try (exact absurd hb (by decide))
          all_goals
            refine TWp.exit ?_
            refine hK5 _ _ ?_; try (clear hK5; clear K5)
            refine TWp.sr fun K16 hK16 => ?_
            simp -implicitDefEqProofs (disch := omega) only [seval, go_sem, h0, h3]
            repeat (with_reducible refine ⟨by first | omega | exact Keep.push _ _ | exact KpL.push _ _, ?_⟩)
            refine hK16 _ _ ?_; try (clear hK16; clear K16)
            refine TWp.ret ⟨.inr rfl, [_], ⟨rfl, trivial⟩, ?_⟩
            exact rb (right_yes (by omega) (by omega) (by omega) (by rw [← ha, List.take_of_length_le (by omega)])) hS
end Go.Proofs.YtlljknmojafkoaaGreatDoor
namespace Go.Proofs.YtlljknmojafkoaaGreatDoor
open Go.RowKit TL
/-- A row of truth values. -/
def dO (bs : List Bool) : List TV := bs.map fun b => .lit (.bool b)
theorem dO_len (bs : List Bool) : (dO bs).length = bs.length := by simp [dO]
theorem dO_get {bs : List Bool} {i : Nat} (h : i < bs.length) : (dO bs).getD i .unk = .lit (.bool (bs.getD i false)) := by
  simp [dO, List.getD_eq_getElem?_getD, List.getElem?_map, List.getElem?_eq_getElem h]
theorem dO_get' {bs : List Bool} {i : Nat} (h : i < bs.length) : (dO bs)[i]? = some (.lit (.bool (bs.getD i false))) := by
  simp [dO, List.getD_eq_getElem?_getD, List.getElem?_map, List.getElem?_eq_getElem h]
theorem dO_set (bs : List Bool) (i : Nat) (x : Bool) : (dO bs).set i (.lit (.bool x)) = dO (bs.set i x) := by simp [dO, List.map_set]
theorem dO_flat (bs : List Bool) : (dO bs).all flatT = true := by simp [dO, flatT]
theorem dO_take (bs : List Bool) (n : Nat) : (dO bs).take n = dO (bs.take n) := by simp [dO, List.map_take]
theorem dO_drop (bs : List Bool) (n : Nat) : (dO bs).drop n = dO (bs.drop n) := by simp [dO, List.map_drop]
theorem dO_spl0 {a b : List Bool} (h : a.length = b.length) : spl (dO a) 0 (dO b) = dO b := by
  have := spl_append [] (dO b) (dO a) [] (by simp [dO, h])
  simpa using this
attribute [go_sem] dO_len dO_get dO_get' dO_set dO_flat dO_take dO_drop dO_spl0
theorem mem_getD {s : Bs} {i : Nat} (h : i < s.length) : s.getD i 0#8 ∈ s := by
  rw [List.getD_eq_getElem?_getD, List.getElem?_eq_getElem h]
  exact List.getElem_mem h
def no256 : List Bool := List.replicate 256 false
set_option maxRecDepth 20000 in
theorem zeroSet_c : ofConst zero263 = .agg (dO no256) := rfl
theorem no256_len : no256.length = 256 := List.length_replicate
attribute [go_sem] zeroSet_c no256_len
def setOf (s : Bs) : List Bool := s.foldl (fun a c => a.set c.toNat true) no256
theorem foldSet_len (s : Bs) : ∀ a : List Bool, (s.foldl (fun a c => a.set c.toNat true) a).length = a.length := by
  induction s with
  | nil => intro a; rfl
  | cons c s ih => intro a; rw [List.foldl_cons, ih, List.length_set]
theorem setOf_len (s : Bs) : (setOf s).length = 256 := by rw [setOf, foldSet_len, no256_len]
theorem setOf_next {s : Bs} {i : Nat} (h : i < s.length) : setOf (s.take (i + 1)) = (setOf (s.take i)).set (s.getD i 0#8).toNat true := by
  rw [setOf, List.take_add_one, List.foldl_append, List.getElem?_eq_getElem h, List.getD_eq_getElem?_getD, List.getElem?_eq_getElem h]
  rfl
set_option maxRecDepth 8000 in
set_option maxHeartbeats 1000000 in
theorem c_strings_asciiSet_contains_ok (S : TS) (id : Nat) (bs : List Bool) (hl : bs.length = 256) (c : BitVec 8) (hS : S.objs id = .cells 263 (dO bs)) : TCall env 254 [.ptr id 0, .lit (w8 c)] S fun r S' => r = .lit (.bool (bs.getD c.toNat false)) ∧ S' = S := by
  refine TCall.of 10 [.tmp 4] Tryz.func254 rfl rfl rfl rfl (by kernel_rfl) rfl ?_
  refine TWp.sr fun K0 hK0 => ?_
  simp -implicitDefEqProofs (disch := omega) only [seval, go_sem, hS, hl]
  repeat (with_reducible refine ⟨by first | omega | exact Keep.push _ _ | exact KpL.push _ _, ?_⟩)
  refine hK0 _ _ ?_; try (clear hK0; clear K0)
  refine TWp.sr fun K1 hK1 => ?_
  simp -implicitDefEqProofs (disch := omega) only [seval, go_sem, hS, hl]
  repeat (with_reducible refine ⟨by first | omega | exact Keep.push _ _ | exact KpL.push _ _, ?_⟩)
  refine hK1 _ _ ?_; try (clear hK1; clear K1)
  refine TWp.ret ⟨.inr rfl, [_], ⟨rfl, trivial⟩, ?_⟩
  exact ⟨rfl, rfl⟩
set_option maxRecDepth 8000 in
set_option maxHeartbeats 1000000 in
theorem c_strings_makeASCIISet_ok (S : TS) (s : Bs) (hs : ∀ c ∈ s, c.toNat < 128) (hm : s.length ≤ 1000000) : TCall env 227 [.lit (.string (st s))] S fun r S' => r = .tup [.agg (dO (setOf s)), .lit (.bool true)] ∧ Keep S S' := by
  have hl0 := setOf_len s
  refine TCall.of 21 [.cell 2 263, .tmp 3] Tryz.func227 rfl rfl rfl rfl (by kernel_rfl) rfl ?_
  refine TWp.sr fun K0 hK0 => ?_
  simp -implicitDefEqProofs (disch := omega) only [seval, go_sem, hl0]
  repeat (with_reducible refine ⟨by first | omega | exact Keep.push _ _ | exact KpL.push _ _, ?_⟩)
  refine hK0 _ _ ?_; try (clear hK0; clear K0)
  refine TWp.seq_k fun K1 hK1 => ?_
  refine TWp.sr fun K2 hK2 => ?_
  simp -implicitDefEqProofs (disch := omega) only [seval, go_sem, hl0]
  repeat (with_reducible refine ⟨by first | omega | exact Keep.push _ _ | exact KpL.push _ _, ?_⟩)
  refine hK2 _ _ ?_; try (clear hK2; clear K2)
  refine TWp.block ?_
  refine TWp.loop (fun n T S' => ∃ i : Nat, n + i = s.length ∧ T 0 = .lit (.string (st s)) ∧ T 4 = .lit (.int .i64 (i : Int)) ∧ T 2 = .ptr S.n 0 ∧ S' = S.push (.cells 263 (dO (setOf (s.take i))))) (s.length) ?_ ?_
  · exact ⟨0, rfl, rfl, rfl, rfl, rfl⟩
  rintro n T S' ⟨i, hi, h0, h4, h2, rfl⟩
  have hl := setOf_len (s.take i)
  refine TWp.seq_k fun K3 hK3 => ?_
  refine TWp.sr fun K4 hK4 => ?_
  simp -implicitDefEqProofs (disch := omega) only [seval, go_sem, h0, h4, h2, hl, hl0]
  repeat (with_reducible refine ⟨by first | omega | exact Keep.push _ _ | exact KpL.push _ _, ?_⟩)
  refine hK4 _ _ ?_; try (clear hK4; clear K4)
  refine TWp.cond_k fun K5 hK5 => ?_
  simp -implicitDefEqProofs (disch := omega) only [seval, go_sem, h0, h4, h2, hl, hl0]
  refine hK5 _ (fun hb => ?_) (fun hb => ?_) <;> clear hK5 <;> clear K5
  · try (replace hb := of_decide_eq_true hb)
    refine TWp.skip ?_
    refine hK3 _ _ ?_; try (clear hK3; clear K3)
    refine TWp.seq_k fun K6 hK6 => ?_
    refine TWp.block ?_
    refine TWp.sr fun K7 hK7 => ?_
    simp -implicitDefEqProofs (disch := omega) only [seval, go_sem, h0, h4, h2, hl, hl0]
    repeat (with_reducible refine ⟨by first | omega | exact Keep.push _ _ | exact KpL.push _ _, ?_⟩)
    refine hK7 _ _ ?_; try (clear hK7; clear K7)
    refine TWp.seq_k fun K8 hK8 => ?_
    refine TWp.sr fun K9 hK9 => ?_
    simp -implicitDefEqProofs (disch := omega) only [seval, go_sem, h0, h4, h2, hl, hl0]
    repeat (with_reducible refine ⟨by first | omega | exact Keep.push _ _ | exact KpL.push _ _, ?_⟩)
    refine hK9 _ _ ?_; try (clear hK9; clear K9)
    refine TWp.cond_k fun K10 hK10 => ?_
    simp -implicitDefEqProofs (disch := omega) only [seval, go_sem, h0, h4, h2, hl, hl0]
    refine hK10 _ (fun hb => ?_) (fun hb => ?_) <;> clear hK10 <;> clear K10
    · exact absurd (hs _ (mem_getD (s := s) (i := i) (by omega))) (by have := of_decide_eq_true hb; omega)
    · try (replace hb := of_decide_eq_false hb)
      refine TWp.skip ?_
      refine hK8 _ _ ?_; try (clear hK8; clear K8)
      refine TWp.rk fun K12 hK12 => ?_
      simp -implicitDefEqProofs (disch := omega) only [seval, go_sem, h0, h4, h2, hl, hl0]
      repeat (with_reducible refine ⟨by first | omega | exact Keep.push _ _ | exact KpL.push _ _, ?_⟩)
      refine hK12 _ _ ?_; try (clear hK12; clear K12)
      refine hK6 _ _ ?_; try (clear hK6; clear K6)
      refine TWp.rk fun K13 hK13 => ?_
      simp -implicitDefEqProofs (disch := omega) only [seval, go_sem, h0, h4, h2, hl, hl0]
      repeat (with_reducible refine ⟨by first | omega | exact Keep.push _ _ | exact KpL.push _ _, ?_⟩)
      refine hK13 _ _ ?_; try (clear hK13; clear K13)
      exact ⟨n - 1, by omega, i + 1, by omega, h0, rfl, h2, by rw [setOf_next (by omega)]⟩
  · try (replace hb := of_decide_eq_false hb)
    refine TWp.exit ?_
    refine hK1 _ _ ?_; try (clear hK1; clear K1)
    refine TWp.sr fun K14 hK14 => ?_
    simp -implicitDefEqProofs (disch := omega) only [seval, go_sem, h0, h4, h2, hl, hl0]
    repeat (with_reducible refine ⟨by first | omega | exact Keep.push _ _ | exact KpL.push _ _, ?_⟩)
    refine hK14 _ _ ?_; try (clear hK14; clear K14)
    refine TWp.ret ⟨.inr rfl, [.agg (dO (setOf s)), .lit (.bool true)], ⟨resCell (by exact h2) ti263 (e := 263) (push_self _ _) rfl ?_, rfl, trivial⟩, rfl, Keep.push _ _⟩
    rw [dO_len]; exact hl0
theorem c_strings_asciiSet_contains {S : TS} {id : Nat} {bs : List Bool} {c : BitVec 8} {K : TV → TS → Prop} (hK : K (.lit (.bool (bs.getD c.toNat false))) S) (hS : S.objs id = .cells 263 (dO bs)) (hl : bs.length = 256) : TCall env 254 [.ptr id 0, .lit (.int .u8 (c.toNat : Int))] S K :=
  (c_strings_asciiSet_contains_ok S id bs hl c hS).mono fun t S' ⟨h1, h2⟩ => by rw [h1, h2]; exact hK
def cutL (p : List Bool) (s : Bs) : Bs := s.dropWhile fun c => p.getD c.toNat false
def cutR (p : List Bool) (s : Bs) : Bs := (cutL p s.reverse).reverse
theorem cutL_in {p : List Bool} {s : Bs} (h : 0 < s.length) (hp : p.getD (s.getD 0 0#8).toNat false = true) : cutL p (s.drop 1) = cutL p s := by
  cases s with
  | nil => simp at h
  | cons c s =>
    have h1 : p.getD c.toNat false = true := hp
    simp only [cutL, List.drop_one, List.tail_cons, List.dropWhile_cons, h1, if_true]
theorem cutL_out {p : List Bool} {s : Bs} (h : 0 < s.length → p.getD (s.getD 0 0#8).toNat false = false) : cutL p s = s := by
  cases s with
  | nil => rfl
  | cons c s =>
    have h1 : p.getD c.toNat false = false := h (by simp)
    simp only [cutL, List.dropWhile_cons, h1]
    simp
theorem last_eq {s : Bs} (h : 0 < s.length) : s.reverse = s.getD (s.length - 1) 0#8 :: (s.take (s.length - 1)).reverse := by
  have e : s = s.take (s.length - 1) ++ [s.getD (s.length - 1) 0#8] := by
    conv => lhs; rw [← List.take_append_drop (s.length - 1) s]
    congr 1
    rw [List.drop_eq_getElem_cons (by omega), List.drop_of_length_le (by omega), List.getD_eq_getElem?_getD, List.getElem?_eq_getElem (by omega)]
    rfl
  conv => lhs; rw [e]
  rw [List.reverse_append]; rfl
theorem cutR_in {p : List Bool} {s : Bs} (h : 0 < s.length) (hp : p.getD (s.getD (s.length - 1) 0#8).toNat false = true) : cutR p (s.take (s.length - 1)) = cutR p s := by
  unfold cutR
  rw [last_eq h]
  congr 1
  simp only [cutL, List.dropWhile_cons, hp, if_true]
theorem cutR_out {p : List Bool} {s : Bs} (h : 0 < s.length → p.getD (s.getD (s.length - 1) 0#8).toNat false = false) : cutR p s = s := by
  unfold cutR
  rw [cutL_out, List.reverse_reverse]
  intro h2
  rw [List.length_reverse] at h2
  rw [last_eq h2]
  exact h h2
theorem cut_all (p : List Bool) (s : Bs) : decide (cutL p (cutR p s) = []) = s.all fun c => p.getD c.toNat false := by
  have hl : ∀ s : Bs, cutL p s = [] ↔ ∀ c ∈ s, p.getD c.toNat false = true := by
    intro s
    induction s with
    | nil => simp [cutL]
    | cons c s ih =>
      by_cases h : p.getD c.toNat false = true
      · simp only [cutL, List.dropWhile_cons, h, if_true, List.mem_cons, forall_eq_or_imp, true_and]; exact ih
      · simp only [cutL, List.dropWhile_cons, List.mem_cons, forall_eq_or_imp, h]; simp
  have ho : ∀ s : Bs, cutL p s = [] ∨ ∃ c t, cutL p s = c :: t ∧ p.getD c.toNat false = false := by
    intro s
    induction s with
    | nil => simp [cutL]
    | cons c s ih =>
      by_cases h : p.getD c.toNat false = true
      · simp only [cutL, List.dropWhile_cons, h, if_true]; exact ih
      · exact .inr ⟨c, s, by simp only [cutL, List.dropWhile_cons, h]; simp, by simpa using h⟩
  rw [Bool.eq_iff_iff, decide_eq_true_eq, List.all_eq_true, hl]
  constructor
  · intro h
    rcases ho s.reverse with h1 | ⟨c, t, h1, h2⟩
    · exact fun c hc => (hl s.reverse).1 h1 c (by simpa using hc)
    · have := h c (by unfold cutR; rw [h1]; simp)
      rw [h2] at this; cases this
  · intro h c hc
    have h1 : cutL p s.reverse = [] := (hl s.reverse).2 fun c hc => h c (by simpa using hc)
    unfold cutR at hc
    rw [h1] at hc; simp at hc
set_option maxRecDepth 8000 in
set_option maxHeartbeats 1000000 in
theorem c_strings_trimLeftASCII_ok (S : TS) (s : Bs) (hm : s.length ≤ 1000000) (id : Nat) (bs : List Bool) (hl : bs.length = 256) (hS : S.objs id = .cells 263 (dO bs)) : TCall env 228 [.lit (.string (st s)), .ptr id 0] S fun r S' => r = .lit (.string (st (cutL bs s))) ∧ S' = S := by
  refine TCall.of 16 [.tmp 4] Tryz.func228 rfl rfl rfl rfl (by kernel_rfl) rfl ?_
  refine TWp.sr fun K0 hK0 => ?_
  simp -implicitDefEqProofs (disch := omega) only [seval, go_sem]
  repeat (with_reducible refine ⟨by first | omega | exact Keep.push _ _ | exact KpL.push _ _, ?_⟩)
  refine hK0 _ _ ?_; try (clear hK0; clear K0)
  refine TWp.seq_k fun K1 hK1 => ?_
  refine TWp.block ?_
  refine TWp.loop (fun n T S' => ∃ u : Bs, u.length = n ∧ u.length ≤ 1000000 ∧ T 0 = .lit (.string (st u)) ∧ T 1 = .ptr id 0 ∧ cutL bs u = cutL bs s ∧ S' = S) (s.length) ?_ ?_
  · exact ⟨s, rfl, hm, rfl, rfl, rfl, rfl⟩
  rintro n T S' ⟨u, hn, hum, h0, h1, he, rfl⟩
  refine TWp.seq_k fun K2 hK2 => ?_
  refine TWp.sr fun K3 hK3 => ?_
  simp -implicitDefEqProofs (disch := omega) only [seval, go_sem, h0, h1]
  repeat (with_reducible refine ⟨by first | omega | exact Keep.push _ _ | exact KpL.push _ _, ?_⟩)
  refine hK3 _ _ ?_; try (clear hK3; clear K3)
  refine TWp.cond_k fun K4 hK4 => ?_
  simp -implicitDefEqProofs (disch := omega) only [seval, go_sem, h0, h1]
  refine hK4 _ (fun hb => ?_) (fun hb => ?_) <;> clear hK4 <;> clear K4
  · try (replace hb := of_decide_eq_true hb)
    refine TWp.skip ?_
    refine hK2 _ _ ?_; try (clear hK2; clear K2)
    refine TWp.block ?_
    refine TWp.seq_k fun K5 hK5 => ?_
    refine TWp.sr fun K6 hK6 => ?_
    simp -implicitDefEqProofs (disch := omega) only [seval, go_sem, h0, h1]
    repeat (with_reducible refine ⟨by first | omega | exact Keep.push _ _ | exact KpL.push _ _, ?_⟩)
    refine c_strings_asciiSet_contains ?_ hS hl
    simp -implicitDefEqProofs (disch := omega) only [seval, go_sem, h0, h1]
    repeat (with_reducible refine ⟨by first | omega | exact Keep.push _ _ | exact KpL.push _ _, ?_⟩)
    refine hK6 _ _ ?_; try (clear hK6; clear K6)
    refine TWp.cond_k fun K7 hK7 => ?_
    simp -implicitDefEqProofs (disch := omega) only [seval, go_sem, h0, h1]
    refine hK7 _ (fun hb => ?_) (fun hb => ?_) <;> clear hK7 <;> clear K7
    · try (replace hb := of_decide_eq_true hb)
      refine TWp.exit ?_
      refine hK1 _ _ ?_; try (clear hK1; clear K1)
      refine TWp.sr fun K8 hK8 => ?_
      simp -implicitDefEqProofs (disch := omega) only [seval, go_sem, h0, h1]
      repeat (with_reducible refine ⟨by first | omega | exact Keep.push _ _ | exact KpL.push _ _, ?_⟩)
      refine hK8 _ _ ?_; try (clear hK8; clear K8)
      refine TWp.ret ⟨.inr rfl, [_], ⟨rfl, trivial⟩, ?_⟩
      exact ⟨by show TV.lit _ = _; rw [← he, cutL_out fun _ => by simpa using hb], rfl⟩
    · try (replace hb := of_decide_eq_false hb)
      refine TWp.skip ?_
      refine hK5 _ _ ?_; try (clear hK5; clear K5)
      refine TWp.rk fun K9 hK9 => ?_
      simp -implicitDefEqProofs (disch := omega) only [seval, go_sem, h0, h1]
      repeat (with_reducible refine ⟨by first | omega | exact Keep.push _ _ | exact KpL.push _ _, ?_⟩)
      refine hK9 _ _ ?_; try (clear hK9; clear K9)
      exact ⟨u.length - 1, by omega, u.drop 1, by simp, by simp; omega, rfl, h1, by rw [← he]; exact cutL_in (by omega) (by simpa using hb), rfl⟩
  · try (replace hb := of_decide_eq_false hb)
    refine TWp.exit ?_
    refine hK1 _ _ ?_; try (clear hK1; clear K1)
    refine TWp.sr fun K10 hK10 => ?_
    simp -implicitDefEqProofs (disch := omega) only [seval, go_sem, h0, h1]
    repeat (with_reducible refine ⟨by first | omega | exact Keep.push _ _ | exact KpL.push _ _, ?_⟩)
    refine hK10 _ _ ?_; try (clear hK10; clear K10)
    refine TWp.ret ⟨.inr rfl, [_], ⟨rfl, trivial⟩, ?_⟩
    exact ⟨by show TV.lit _ = _; rw [← he, cutL_out fun h => absurd h (by omega)], rfl⟩
set_option maxRecDepth 8000 in
set_option maxHeartbeats 1000000 in
theorem c_strings_trimRightASCII_ok (S : TS) (s : Bs) (hm : s.length ≤ 1000000) (id : Nat) (bs : List Bool) (hl : bs.length = 256) (hS : S.objs id = .cells 263 (dO bs)) : TCall env 229 [.lit (.string (st s)), .ptr id 0] S fun r S' => r = .lit (.string (st (cutR bs s))) ∧ S' = S := by
  refine TCall.of 22 [.tmp 4] Tryz.func229 rfl rfl rfl rfl (by kernel_rfl) rfl ?_
  refine TWp.sr fun K0 hK0 => ?_
  simp -implicitDefEqProofs (disch := omega) only [seval, go_sem]
  repeat (with_reducible refine ⟨by first | omega | exact Keep.push _ _ | exact KpL.push _ _, ?_⟩)
  refine hK0 _ _ ?_; try (clear hK0; clear K0)
  refine TWp.seq_k fun K1 hK1 => ?_
  refine TWp.block ?_
  refine TWp.loop (fun n T S' => ∃ u : Bs, u.length = n ∧ u.length ≤ 1000000 ∧ T 0 = .lit (.string (st u)) ∧ T 1 = .ptr id 0 ∧ cutR bs u = cutR bs s ∧ S' = S) (s.length) ?_ ?_
  · exact ⟨s, rfl, hm, rfl, rfl, rfl, rfl⟩
  rintro n T S' ⟨u, hn, hum, h0, h1, he, rfl⟩
  refine TWp.seq_k fun K2 hK2 => ?_
  refine TWp.sr fun K3 hK3 => ?_
  simp -implicitDefEqProofs (disch := omega) only [seval, go_sem, h0, h1]
  repeat (with_reducible refine ⟨by first | omega | exact Keep.push _ _ | exact KpL.push _ _, ?_⟩)
  refine hK3 _ _ ?_; try (clear hK3; clear K3)
  refine TWp.cond_k fun K4 hK4 => ?_
  simp -implicitDefEqProofs (disch := omega) only [seval, go_sem, h0, h1]
  refine hK4 _ (fun hb => ?_) (fun hb => ?_) <;> clear hK4 <;> clear K4
  · try (replace hb := of_decide_eq_true hb)
    refine TWp.skip ?_
    refine hK2 _ _ ?_; try (clear hK2; clear K2)
    refine TWp.block ?_
    refine TWp.seq_k fun K5 hK5 => ?_
    refine TWp.sr fun K6 hK6 => ?_
    simp -implicitDefEqProofs (disch := omega) only [seval, go_sem, h0, h1]
    repeat (with_reducible refine ⟨by first | omega | exact Keep.push _ _ | exact KpL.push _ _, ?_⟩)
    refine c_strings_asciiSet_contains ?_ hS hl
    simp -implicitDefEqProofs (disch := omega) only [seval, go_sem, h0, h1]
    repeat (with_reducible refine ⟨by first | omega | exact Keep.push _ _ | exact KpL.push _ _, ?_⟩)
    refine hK6 _ _ ?_; try (clear hK6; clear K6)
    refine TWp.cond_k fun K7 hK7 => ?_
    simp -implicitDefEqProofs (disch := omega) only [seval, go_sem, h0, h1]
    refine hK7 _ (fun hb => ?_) (fun hb => ?_) <;> clear hK7 <;> clear K7
    · try (replace hb := of_decide_eq_true hb)
      refine TWp.exit ?_
      refine hK1 _ _ ?_; try (clear hK1; clear K1)
      refine TWp.sr fun K8 hK8 => ?_
      simp -implicitDefEqProofs (disch := omega) only [seval, go_sem, h0, h1]
      repeat (with_reducible refine ⟨by first | omega | exact Keep.push _ _ | exact KpL.push _ _, ?_⟩)
      refine hK8 _ _ ?_; try (clear hK8; clear K8)
      refine TWp.ret ⟨.inr rfl, [_], ⟨rfl, trivial⟩, ?_⟩
      exact ⟨by show TV.lit _ = _; rw [← he, cutR_out fun _ => by simpa using hb], rfl⟩
    · try (replace hb := of_decide_eq_false hb)
      refine TWp.skip ?_
      refine hK5 _ _ ?_; try (clear hK5; clear K5)
      refine TWp.rk fun K9 hK9 => ?_
      simp -implicitDefEqProofs (disch := omega) only [seval, go_sem, h0, h1]
      repeat (with_reducible refine ⟨by first | omega | exact Keep.push _ _ | exact KpL.push _ _, ?_⟩)
      refine hK9 _ _ ?_; try (clear hK9; clear K9)
      exact ⟨u.length - 1, by omega, u.take (u.length - 1), by simp, by simp; omega, rfl, h1, by rw [← he]; exact cutR_in (by omega) (by simpa using hb), rfl⟩
  · try (replace hb := of_decide_eq_false hb)
    refine TWp.exit ?_
    refine hK1 _ _ ?_; try (clear hK1; clear K1)
    refine TWp.sr fun K10 hK10 => ?_
    simp -implicitDefEqProofs (disch := omega) only [seval, go_sem, h0, h1]
    repeat (with_reducible refine ⟨by first | omega | exact Keep.push _ _ | exact KpL.push _ _, ?_⟩)
    refine hK10 _ _ ?_; try (clear hK10; clear K10)
    refine TWp.ret ⟨.inr rfl, [_], ⟨rfl, trivial⟩, ?_⟩
    exact ⟨by show TV.lit _ = _; rw [← he, cutR_out fun h => absurd h (by omega)], rfl⟩
end Go.Proofs.YtlljknmojafkoaaGreatDoor
namespace Go.Proofs.YtlljknmojafkoaaGreatDoor
open Go.RowKit TL
theorem ren_dO (n : Nat) (L : List Nat) (bs : List Bool) : Ren n L (.agg (dO bs)) (.agg (dO bs)) := by
  refine .agg _ _ rfl fun j t t' h1 h2 => ?_
  rw [h1] at h2; injection h2 with h2; subst h2
  unfold dO at h1
  rw [List.getElem?_map] at h1
  obtain ⟨x, _, rfl⟩ := Option.map_eq_some_iff.1 h1
  exact .lit _
theorem c_strings_makeASCIISet {S : TS} {s : Bs} {K : TV → TS → Prop} (hK : K (.tup [.agg (dO (setOf s)), .lit (.bool true)]) S) (hs : ∀ c ∈ s, c.toNat < 128) (hm : s.length ≤ 1000000 := by omega) : TCall env 227 [.lit (.string (st s))] S K :=
  (TCall.pure (c_strings_makeASCIISet_ok S s hs hm) (.tupF (.cons (ren_dO _ _ _) (.cons (.lit _) .nil)))).mono fun t S' ⟨h1, h2⟩ => by rw [h1, h2]; exact hK
theorem c_strings_trimLeftASCII {S : TS} {s : Bs} {id : Nat} {bs : List Bool} {K : TV → TS → Prop} (hK : K (.lit (.string (st (cutL bs s)))) S) (hS : S.objs id = .cells 263 (dO bs)) (hl : bs.length = 256) (hm : s.length ≤ 1000000 := by omega) : TCall env 228 [.lit (.string (st s)), .ptr id 0] S K :=
  (c_strings_trimLeftASCII_ok S s hm id bs hl hS).mono fun t S' ⟨h1, h2⟩ => by rw [h1, h2]; exact hK
theorem c_strings_trimRightASCII {S : TS} {s : Bs} {id : Nat} {bs : List Bool} {K : TV → TS → Prop} (hK : K (.lit (.string (st (cutR bs s)))) S) (hS : S.objs id = .cells 263 (dO bs)) (hl : bs.length = 256) (hm : s.length ≤ 1000000 := by omega) : TCall env 229 [.lit (.string (st s)), .ptr id 0] S K :=
  (c_strings_trimRightASCII_ok S s hm id bs hl hS).mono fun t S' ⟨h1, h2⟩ => by rw [h1, h2]; exact hK
theorem cutL_len (p : List Bool) (s : Bs) : (cutL p s).length ≤ s.length := by
  unfold cutL
  exact (List.dropWhile_sublist _).length_le
theorem cutR_len (p : List Bool) (s : Bs) : (cutR p s).length ≤ s.length := by
  have := cutL_len p s.reverse
  simpa [cutR] using this
set_option maxRecDepth 8000 in
set_option maxHeartbeats 1000000 in
theorem c_strings_Trim_ok (S : TS) (s cut : Bs) (h2 : 2 ≤ cut.length) (hs : ∀ c ∈ cut, c.toNat < 128) (hm : s.length ≤ 1000000) (hm2 : cut.length ≤ 1000000) : TCall env 184 [.lit (.string (st s)), .lit (.string (st cut))] S fun r S' => r = .lit (.string (st (cutL (setOf cut) (cutR (setOf cut) s)))) ∧ Keep S S' := by
  have hl2 := no256_len
  have hl0 := setOf_len cut
  have hl1 := cutR_len (setOf cut) s
  refine TCall.of 43 [.tmp 4] Tryz.func184 rfl rfl rfl rfl (by kernel_rfl) rfl ?_
  refine TWp.sr fun K0 hK0 => ?_
  simp -implicitDefEqProofs (disch := omega) only [seval, go_sem, hl0]
  repeat (with_reducible refine ⟨by first | omega | exact Keep.push _ _ | exact KpL.push _ _, ?_⟩)
  refine hK0 _ _ ?_; try (clear hK0; clear K0)
  refine TWp.seq_k fun K1 hK1 => ?_
  refine TWp.sr fun K2 hK2 => ?_
  simp -implicitDefEqProofs (disch := omega) only [seval, go_sem, hl0]
  repeat' (first | with_reducible refine ⟨by first | omega | exact Keep.push _ _ | exact KpL.push _ _, ?_⟩ | (refine brT_split (fun hb => ?_) (fun hb => ?_) <;> (have hb' := hb; try simp only [decide_eq_true_eq, decide_eq_false_iff_not] at hb') <;> simp -implicitDefEqProofs (disch := omega) only [seval, go_sem, hb, hl0]))
  all_goals
    refine hK2 _ _ ?_; try (clear hK2; clear K2)
    refine TWp.cond_k fun K3 hK3 => ?_
    simp -implicitDefEqProofs (disch := omega) only [seval, go_sem, hl0]
    refine hK3 _ (fun hb => ?_) (fun hb => ?_) <;> clear hK3 <;> clear K3
    · try (replace hb := of_decide_eq_true hb)
      try (exact absurd hb (by decide))
      all_goals
        refine TWp.sr fun K4 hK4 => ?_
        simp -implicitDefEqProofs (disch := omega) only [seval, go_sem, hl0]
        repeat (with_reducible refine ⟨by first | omega | exact Keep.push _ _ | exact KpL.push _ _, ?_⟩)
        refine hK4 _ _ ?_; try (clear hK4; clear K4)
        refine TWp.ret ⟨.inr rfl, [_], ⟨rfl, trivial⟩, ?_⟩
        have e : s = [] := by first | exact of_decide_eq_true (by assumption) | exact absurd (by assumption) (by rintro rfl; simp at h2)
        subst e
        exact ⟨rfl, Keep.refl _⟩
    · try (replace hb := of_decide_eq_false hb)
      try (exact absurd hb (by decide))
      all_goals
        refine TWp.skip ?_
        refine hK1 _ _ ?_; try (clear hK1; clear K1)
        refine TWp.seq_k fun K5 hK5 => ?_
        refine TWp.sr fun K6 hK6 => ?_
        simp -implicitDefEqProofs (disch := omega) only [seval, go_sem, hl0]
        repeat' (first | with_reducible refine ⟨by first | omega | exact Keep.push _ _ | exact KpL.push _ _, ?_⟩ | (refine brT_split (fun hb => ?_) (fun hb => ?_) <;> (have hb' := hb; try simp only [decide_eq_true_eq, decide_eq_false_iff_not] at hb') <;> simp -implicitDefEqProofs (disch := omega) only [seval, go_sem, hb, hl0]))
        all_goals
          refine hK6 _ _ ?_; try (clear hK6; clear K6)
          refine TWp.cond_k fun K7 hK7 => ?_
          simp -implicitDefEqProofs (disch := omega) only [seval, go_sem, hl0]
          refine hK7 _ (fun hb => ?_) (fun hb => ?_) <;> clear hK7 <;> clear K7
          · try (replace hb := of_decide_eq_true hb)
            try (exact absurd hb (by decide))
            all_goals
              exfalso; omega
          · try (replace hb := of_decide_eq_false hb)
            try (exact absurd hb (by decide))
            all_goals
              refine TWp.skip ?_
              refine hK5 _ _ ?_; try (clear hK5; clear K5)
              refine TWp.seq_k fun K9 hK9 => ?_
              refine TWp.sr fun K10 hK10 => ?_
              simp -implicitDefEqProofs (disch := omega) only [seval, go_sem, hl0]
              repeat (with_reducible refine ⟨by first | omega | exact Keep.push _ _ | exact KpL.push _ _, ?_⟩)
              refine c_strings_makeASCIISet ?_ hs
              simp -implicitDefEqProofs (disch := omega) only [seval, go_sem, hl0]
              repeat (with_reducible refine ⟨by first | omega | exact Keep.push _ _ | exact KpL.push _ _, ?_⟩)
              refine hK10 _ _ ?_; try (clear hK10; clear K10)
              refine TWp.sr fun K11 hK11 => ?_
              simp -implicitDefEqProofs (disch := omega) only [seval, go_sem, hl0]
              repeat (with_reducible refine ⟨by first | omega | exact Keep.push _ _ | exact KpL.push _ _, ?_⟩)
              refine hK11 _ _ ?_; try (clear hK11; clear K11)
              refine TWp.cond_k fun K12 hK12 => ?_
              simp -implicitDefEqProofs (disch := omega) only [seval, go_sem, hl0]
              refine hK12 _ (fun hb => ?_) (fun hb => ?_) <;> clear hK12 <;> clear K12
              · try (replace hb := of_decide_eq_true hb)
                try (exact absurd hb (by decide))
                all_goals
                  refine TWp.sr fun K13 hK13 => ?_
                  simp -implicitDefEqProofs (disch := omega) only [seval, go_sem, hl0]
                  repeat (with_reducible refine ⟨by first | omega | exact Keep.push _ _ | exact KpL.push _ _, ?_⟩)
                  refine c_strings_trimRightASCII ?_ (push_self _ _) hl0
                  simp -implicitDefEqProofs (disch := omega) only [seval, go_sem, hl0]
                  repeat (with_reducible refine ⟨by first | omega | exact Keep.push _ _ | exact KpL.push _ _, ?_⟩)
                  refine c_strings_trimLeftASCII ?_ (push_self _ _) hl0
                  simp -implicitDefEqProofs (disch := omega) only [seval, go_sem, hl0]
                  repeat (with_reducible refine ⟨by first | omega | exact Keep.push _ _ | exact KpL.push _ _, ?_⟩)
                  refine hK13 _ _ ?_; try (clear hK13; clear K13)
                  refine TWp.ret ⟨.inr rfl, [_], ⟨rfl, trivial⟩, ?_⟩
                  exact ⟨rfl, Keep.push _ _⟩
              · try (replace hb := of_decide_eq_false hb)
                try (exact absurd hb (by decide))
                all_goals
                  refine TWp.skip ?_
                  refine hK9 _ _ ?_; try (clear hK9; clear K9)
                  exfalso; omega
theorem c_strings_Trim {S : TS} {s cut : Bs} {K : TV → TS → Prop} (hK : K (.lit (.string (st (cutL (setOf cut) (cutR (setOf cut) s))))) S) (hs : ∀ c ∈ cut, c.toNat < 128) (h2 : 2 ≤ cut.length := by omega) (hm : s.length ≤ 1000000 := by omega) (hm2 : cut.length ≤ 1000000 := by omega) : TCall env 184 [.lit (.string (st s)), .lit (.string (st cut))] S K :=
  (TCall.pure (c_strings_Trim_ok S s cut h2 hs hm hm2) (.lit _)).mono fun t S' ⟨h1, h2⟩ => by rw [h1, h2]; exact hK
theorem right_trim {s cut : Bs} (h1 : 1 ≤ s.length) (h2 : s.length ≤ 40) (h3 : (s.getD 0 0#8).toNat ≠ 46) (hX : ∀ c : BitVec 8, (setOf cut).getD c.toNat false = okc c) : rightS s = decide (cutL (setOf cut) (cutR (setOf cut) s) = []) := by
  rw [cut_all, rightS, decide_eq_true h1, decide_eq_true h2, decide_eq_true h3]
  simp only [Bool.true_and]
  congr 1
  funext c
  exact (hX c).symm
set_option maxRecDepth 8000 in
set_option maxHeartbeats 1000000 in
theorem c_name_Right_ok (S : TS) (s : Bs) : TCall env 138 [.lit (.string (st s))] S fun r S' => r = .lit (.bool (rightS s)) ∧ S' = S := by
  refine TCall.of 21 [.tmp 2] Tryz.func138 rfl rfl rfl rfl (by kernel_rfl) rfl ?_
  refine TWp.sr fun K0 hK0 => ?_
  simp -implicitDefEqProofs (disch := omega) only [seval, go_sem]
  repeat (with_reducible refine ⟨by first | omega | exact Keep.push _ _ | exact KpL.push _ _, ?_⟩)
  refine hK0 _ _ ?_; try (clear hK0; clear K0)
  refine TWp.sr fun K1 hK1 => ?_
  simp -implicitDefEqProofs (disch := omega) only [seval, go_sem]
  repeat' (first | with_reducible refine ⟨by first | omega | exact Keep.push _ _ | exact KpL.push _ _, ?_⟩ | (refine brT_split (fun hb => ?_) (fun hb => ?_) <;> (have hb' := hb; try simp only [decide_eq_true_eq, decide_eq_false_iff_not] at hb') <;> simp -implicitDefEqProofs (disch := omega) only [seval, go_sem, hb]))
  all_goals try (refine c_strings_Trim ?_ (by decide) (by decide) (by omega) (by decide); simp -implicitDefEqProofs (disch := omega) only [seval, go_sem])
  all_goals
    refine hK1 _ _ ?_; try (clear hK1; clear K1)
    refine TWp.ret ⟨.inr rfl, [_], ⟨rfl, trivial⟩, ?_⟩
    first | exact rb (right_no (by omega)) rfl | exact rb (right_trim (by omega) (by omega) (by omega) (by decide +kernel)) rfl
theorem c_name_Right {S : TS} {s : Bs} {K : TV → TS → Prop} (hK : K (.lit (.bool (rightS s))) S) : TCall env 138 [.lit (.string (st s))] S K :=
  (c_name_Right_ok S s).mono fun t S' ⟨h1, h2⟩ => by rw [h1, h2]; exact hK
theorem c_godownref07_Right {S : TS} {s : Bs} {K : TV → TS → Prop} (hK : K (.lit (.bool (rightS s))) S) : TCall env 33 [.lit (.string (st s))] S K :=
  (c_godownref07_Right_ok S s).mono fun t S' ⟨h1, h2⟩ => by rw [h1, h2]; exact hK
end Go.Proofs.YtlljknmojafkoaaGreatDoor
namespace Go.Proofs.YtlljknmojafkoaaGreatDoor
open Go.RowKit TL
def b32 : Bs := [48#8, 49#8, 50#8, 51#8, 52#8, 53#8, 54#8, 55#8, 56#8, 57#8, 97#8, 98#8, 99#8, 100#8, 102#8, 103#8, 104#8, 105#8, 106#8, 107#8, 108#8, 109#8, 110#8, 112#8, 113#8, 114#8, 115#8, 118#8, 119#8, 120#8, 121#8, 122#8]
theorem b32_lit : (⟨#[48, 49, 50, 51, 52, 53, 54, 55, 56, 57, 97, 98, 99, 100, 102, 103, 104, 105, 106, 107, 108, 109, 110, 112, 113, 114, 115, 118, 119, 120, 121, 122]⟩ : ByteArray) = st b32 := rfl
theorem b32_len : b32.length = 32 := rfl
attribute [go_sem high] b32_lit
attribute [go_sem] b32_len
def idxS (s : Bs) (c : BitVec 8) : Int :=
  match (List.range s.length).find? fun i => s.getD i 0#8 == c with
  | some i => i
  | none => -1
theorem find_congr {α : Type} {p q : α → Bool} : ∀ {l : List α}, (∀ x ∈ l, p x = q x) → l.find? p = l.find? q
  | [], _ => rfl
  | x :: l, h => by
    simp only [List.find?_cons, h x (by simp)]
    rw [find_congr (l := l) fun y hy => h y (by simp [hy])]
theorem firstIdx_st (s : Bs) (c : BitVec 8) : firstIdx (st s) (c.toNat : Int).toNat.toUInt8 = idxS s c := by
  unfold firstIdx idxS
  suffices key : (List.range s.length).find? (fun i => (st s)[i]! == (c.toNat : Int).toNat.toUInt8) = (List.range s.length).find? (fun i => s.getD i 0#8 == c)  by
    rw [st_size, key]
    generalize (List.range s.length).find? (fun i => s.getD i 0#8 == c) = o
    cases o <;> rfl
  refine find_congr fun i hi => ?_
  rw [List.mem_range] at hi
  have h1 : (st s)[i]! = UInt8.ofBitVec (s.getD i 0#8) := by
    rw [getElem!_pos (st s) i (by rw [st_size]; exact hi), List.getD_eq_getElem?_getD, List.getElem?_eq_getElem hi]
    show (st s).data[i]'_ = _
    simp only [st, List.getElem_toArray, List.getElem_map]
    rfl
  rw [h1, Int.toNat_natCast, Bool.eq_iff_iff, beq_iff_eq, beq_iff_eq]
  have h2 : c.toNat.toUInt8 = UInt8.ofBitVec c := by
    apply UInt8.toNat_inj.1
    show c.toNat % 256 = c.toNat
    exact Nat.mod_eq_of_lt c.isLt
  rw [h2]
  exact ⟨fun h => by have := congrArg UInt8.toBitVec h; simpa using this, fun h => by rw [h]⟩
theorem idxS_some {s : Bs} {c : BitVec 8} {i : Nat} (h : i < s.length) (hc : s.getD i 0#8 = c) (hn : ∀ j, j < i → s.getD j 0#8 ≠ c) : idxS s c = i := by
  unfold idxS
  have : (List.range s.length).find? (fun i => s.getD i 0#8 == c) = some i := by
    rw [List.find?_range_eq_some]
    exact ⟨by rw [hc]; simp, List.mem_range.2 h, fun j hj => by simpa using hn j hj⟩
  rw [this]
theorem idxS_none {s : Bs} {c : BitVec 8} (hn : ∀ j, j < s.length → s.getD j 0#8 ≠ c) : idxS s c = -1 := by
  unfold idxS
  have : (List.range s.length).find? (fun i => s.getD i 0#8 == c) = none := by
    rw [List.find?_eq_none]
    intro j hj
    simpa using hn j (List.mem_range.1 hj)
  rw [this]
theorem TCall.of_extern {E : Env} {f : FuncId} {fn : Func} {e : Array Value → Sem Value} {args : List TV} {S : TS} {R : TV → TS → Prop} (hf : E.P.funcs[f]? = some fn) (hname : (fn.name == "runtime.NumGoroutine") = false) (hb : fn.body.isNone = true) (hn : Extern.findNext fn = none) (he : Extern.find fn = some e)
    (h : ∀ w0 c w vs, Ok E w0 c S w → RdCells c w args vs → ∃ v w', (e vs).run E.P w = .ok v w' ∧ Fin E w0 c w R v w') : TCall E f args S R := fun w0 c w vs hk hv => by
  obtain ⟨v, w', h1, h2⟩ := h w0 c w vs hk hv
  exact .inr ⟨v, w', by rw [run_callFunc_extern hf hname hb hn he, h1]; rfl, h2⟩
theorem rdCells_two {c : Cx} {w : World} {a b : Value} {vs : Array Value} (h : RdCells c w [.lit a, .lit b] vs) : vs = #[a, b] := by
  have h0 := h.size
  apply Array.ext
  · simpa using h0
  · intro i h1 h2
    have h3 : i < 2 := by simpa using h2
    match i, h3 with
    | 0, _ => exact (h.rd 0 _ _ rfl (Array.getElem?_eq_getElem h1)).lit_inv
    | 1, _ => exact (h.rd 1 _ _ rfl (Array.getElem?_eq_getElem h1)).lit_inv
theorem c_bytealg_IndexByteString {S : TS} {s : Bs} {c : BitVec 8} {K : TV → TS → Prop} (hK : K (.lit (.int .i64 (idxS s c))) S) : TCall env 247 [.lit (.string (st s)), .lit (.int .u8 (c.toNat : Int))] S K := by
  refine TCall.of_extern (e := Extern.BytealgIndexByte.indexByte) Tryz.func247 rfl rfl (by kernel_rfl) (by kernel_rfl) fun w0 c0 w vs hk hv => ?_
  rw [rdCells_two hv]
  refine ⟨_, _, run_indexByte_string (P := env.P) (st s) (c.toNat : Int) w, _, c0, S, hk, Mono.refl _ _, ?_, hK⟩
  rw [firstIdx_st]
  exact .lit _
set_option maxRecDepth 8000 in
set_option maxHeartbeats 1000000 in
theorem c_stringslite_IndexByte_ok (S : TS) (s : Bs) (c : BitVec 8) : TCall env 213 [.lit (.string (st s)), .lit (.int .u8 (c.toNat : Int))] S fun r S' => r = .lit (.int .i64 (idxS s c)) ∧ S' = S := by
  refine TCall.of 8 [.tmp 4] Tryz.func213 rfl rfl rfl rfl (by kernel_rfl) rfl ?_
  refine TWp.sr fun K0 hK0 => ?_
  simp -implicitDefEqProofs (disch := omega) only [seval, go_sem]
  repeat (with_reducible refine ⟨by first | omega | exact Keep.push _ _ | exact KpL.push _ _, ?_⟩)
  refine hK0 _ _ ?_; try (clear hK0; clear K0)
  refine TWp.sr fun K1 hK1 => ?_
  simp -implicitDefEqProofs (disch := omega) only [seval, go_sem]
  repeat (with_reducible refine ⟨by first | omega | exact Keep.push _ _ | exact KpL.push _ _, ?_⟩)
  refine c_bytealg_IndexByteString ?_
  simp -implicitDefEqProofs (disch := omega) only [seval, go_sem]
  repeat (with_reducible refine ⟨by first | omega | exact Keep.push _ _ | exact KpL.push _ _, ?_⟩)
  refine hK1 _ _ ?_; try (clear hK1; clear K1)
  refine TWp.ret ⟨.inr rfl, [_], ⟨rfl, trivial⟩, ?_⟩
  exact ⟨rfl, rfl⟩
theorem c_stringslite_IndexByte {S : TS} {s : Bs} {c : BitVec 8} {K : TV → TS → Prop} (hK : K (.lit (.int .i64 (idxS s c))) S) : TCall env 213 [.lit (.string (st s)), .lit (.int .u8 (c.toNat : Int))] S K :=
  (c_stringslite_IndexByte_ok S s c).mono fun t S' ⟨h1, h2⟩ => by rw [h1, h2]; exact hK
set_option maxRecDepth 8000 in
set_option maxHeartbeats 1000000 in
theorem c_strings_IndexByte_ok (S : TS) (s : Bs) (c : BitVec 8) : TCall env 180 [.lit (.string (st s)), .lit (.int .u8 (c.toNat : Int))] S fun r S' => r = .lit (.int .i64 (idxS s c)) ∧ S' = S := by
  refine TCall.of 8 [.tmp 4] Tryz.func180 rfl rfl rfl rfl (by kernel_rfl) rfl ?_
  refine TWp.sr fun K0 hK0 => ?_
  simp -implicitDefEqProofs (disch := omega) only [seval, go_sem]
  repeat (with_reducible refine ⟨by first | omega | exact Keep.push _ _ | exact KpL.push _ _, ?_⟩)
  refine hK0 _ _ ?_; try (clear hK0; clear K0)
  refine TWp.sr fun K1 hK1 => ?_
  simp -implicitDefEqProofs (disch := omega) only [seval, go_sem]
  repeat (with_reducible refine ⟨by first | omega | exact Keep.push _ _ | exact KpL.push _ _, ?_⟩)
  refine c_stringslite_IndexByte ?_
  simp -implicitDefEqProofs (disch := omega) only [seval, go_sem]
  repeat (with_reducible refine ⟨by first | omega | exact Keep.push _ _ | exact KpL.push _ _, ?_⟩)
  refine hK1 _ _ ?_; try (clear hK1; clear K1)
  refine TWp.ret ⟨.inr rfl, [_], ⟨rfl, trivial⟩, ?_⟩
  exact ⟨rfl, rfl⟩
theorem c_strings_IndexByte {S : TS} {s : Bs} {c : BitVec 8} {K : TV → TS → Prop} (hK : K (.lit (.int .i64 (idxS s c))) S) : TCall env 180 [.lit (.string (st s)), .lit (.int .u8 (c.toNat : Int))] S K :=
  (c_strings_IndexByte_ok S s c).mono fun t S' ⟨h1, h2⟩ => by rw [h1, h2]; exact hK
set_option maxRecDepth 8000 in
set_option maxHeartbeats 1000000 in
theorem c_godownref03_value_ok (S : TS) (c : BitVec 8) : TCall env 196 [.lit (.int .u8 (c.toNat : Int))] S fun r S' => r = .lit (.int .i64 (idxS b32 c)) ∧ S' = S := by
  have hl := b32_len
  refine TCall.of 13 [.tmp 2] Tryz.func196 rfl rfl rfl rfl (by kernel_rfl) rfl ?_
  refine TWp.sr fun K0 hK0 => ?_
  simp -implicitDefEqProofs (disch := omega) only [seval, go_sem]
  repeat (with_reducible refine ⟨by first | omega | exact Keep.push _ _ | exact KpL.push _ _, ?_⟩)
  refine hK0 _ _ ?_; try (clear hK0; clear K0)
  refine TWp.seq_k fun K1 hK1 => ?_
  refine TWp.sr fun K2 hK2 => ?_
  simp -implicitDefEqProofs (disch := omega) only [seval, go_sem]
  repeat (with_reducible refine ⟨by first | omega | exact Keep.push _ _ | exact KpL.push _ _, ?_⟩)
  refine hK2 _ _ ?_; try (clear hK2; clear K2)
  refine TWp.block ?_
  refine TWp.loop (fun n T S' => ∃ i : Nat, n + i = 32 ∧ T 0 = .lit (.int .u8 (c.toNat : Int)) ∧ T 3 = .lit (.int .i64 (i : Int)) ∧ (∀ j, j < i → b32.getD j 0#8 ≠ c) ∧ S' = S) (32) ?_ ?_
  · exact ⟨0, rfl, rfl, rfl, fun j hj => absurd hj (by omega), rfl⟩
  rintro n T S' ⟨i, hi, h0, h3, ha, hS⟩
  refine TWp.seq_k fun K3 hK3 => ?_
  refine TWp.sr fun K4 hK4 => ?_
  simp -implicitDefEqProofs (disch := omega) only [seval, go_sem, h0, h3]
  repeat (with_reducible refine ⟨by first | omega | exact Keep.push _ _ | exact KpL.push _ _, ?_⟩)
  refine hK4 _ _ ?_; try (clear hK4; clear K4)
  refine TWp.cond_k fun K5 hK5 => ?_
  simp -implicitDefEqProofs (disch := omega) only [seval, go_sem, h0, h3]
  refine hK5 _ (fun hb => ?_) (fun hb => ?_) <;> clear hK5 <;> clear K5
  · try (replace hb := of_decide_eq_true hb)
    refine TWp.skip ?_
    refine hK3 _ _ ?_; try (clear hK3; clear K3)
    refine TWp.seq_k fun K6 hK6 => ?_
    refine TWp.block ?_
    refine TWp.sr fun K7 hK7 => ?_
    simp -implicitDefEqProofs (disch := omega) only [seval, go_sem, h0, h3]
    repeat (with_reducible refine ⟨by first | omega | exact Keep.push _ _ | exact KpL.push _ _, ?_⟩)
    refine hK7 _ _ ?_; try (clear hK7; clear K7)
    refine TWp.cond_k fun K8 hK8 => ?_
    simp -implicitDefEqProofs (disch := omega) only [seval, go_sem, h0, h3]
    refine hK8 _ (fun hb => ?_) (fun hb => ?_) <;> clear hK8 <;> clear K8
    · try (replace hb := of_decide_eq_true hb)
      refine TWp.sr fun K9 hK9 => ?_
      simp -implicitDefEqProofs (disch := omega) only [seval, go_sem, h0, h3]
      repeat (with_reducible refine ⟨by first | omega | exact Keep.push _ _ | exact KpL.push _ _, ?_⟩)
      refine hK9 _ _ ?_; try (clear hK9; clear K9)
      refine TWp.ret ⟨.inr rfl, [_], ⟨rfl, trivial⟩, ?_⟩
      exact ⟨by show TV.lit _ = _; rw [idxS_some (by rw [b32_len]; omega) (BitVec.eq_of_toNat_eq (by omega)) ha], hS⟩
    · try (replace hb := of_decide_eq_false hb)
      refine TWp.skip ?_
      refine hK6 _ _ ?_; try (clear hK6; clear K6)
      refine TWp.rk fun K10 hK10 => ?_
      simp -implicitDefEqProofs (disch := omega) only [seval, go_sem, h0, h3]
      repeat (with_reducible refine ⟨by first | omega | exact Keep.push _ _ | exact KpL.push _ _, ?_⟩)
      refine hK10 _ _ ?_; try (clear hK10; clear K10)
      exact ⟨n - 1, by omega, i + 1, by omega, h0, rfl, fun j hj => by
        rcases Nat.lt_succ_iff_lt_or_eq.1 hj with h | h
        · exact ha j h
        · rw [h]; intro e; exact hb (by rw [e]), hS⟩
  · try (replace hb := of_decide_eq_false hb)
    refine TWp.exit ?_
    refine hK1 _ _ ?_; try (clear hK1; clear K1)
    refine TWp.sr fun K11 hK11 => ?_
    simp -implicitDefEqProofs (disch := omega) only [seval, go_sem, h0, h3]
    repeat (with_reducible refine ⟨by first | omega | exact Keep.push _ _ | exact KpL.push _ _, ?_⟩)
    refine hK11 _ _ ?_; try (clear hK11; clear K11)
    refine TWp.ret ⟨.inr rfl, [_], ⟨rfl, trivial⟩, ?_⟩
    exact ⟨by show TV.lit _ = _; rw [idxS_none fun j hj => ha j (by rw [b32_len] at hj; omega)], hS⟩
end Go.Proofs.YtlljknmojafkoaaGreatDoor
namespace Go.Proofs.YtlljknmojafkoaaGreatDoor
open Go.RowKit TL
theorem quoN (P : Program) (ty : TypeId) (a : Nat) (b : Int) (h : 0 < b ∧ a < 9223372036854775808) : tvBin P .quo ty (.int .i64 (a : Int)) (.int .i64 b) = some (.int .i64 ((a / b.toNat : Nat) : Int)) := by
  obtain ⟨n, rfl⟩ : ∃ n : Nat, b = (n : Int) := ⟨b.toNat, by omega⟩
  have h2 : a / n ≤ a := Nat.div_le_self a n
  rw [quoI _ _ _ _ (by omega) (by rw [← Int.ofNat_tdiv]; generalize a / n = q at h2 ⊢; omega), ← Int.ofNat_tdiv]
  rfl
attribute [go_sem high] quoN
def bitN (p : Bs) (i : Nat) : Nat := if i / 8 < p.length then ((p.getD (i / 8) 0#8) >>> (7 - i % 8)).toNat % 2 else 0
set_option maxRecDepth 8000 in
set_option maxHeartbeats 1000000 in
theorem c_godownref03_bit_ok (S : TS) (g : Tag) (p : Bs) (i : Nat) (hp : p.length ≤ 1000000) (hi : i ≤ 10000000) : TCall env 108 [.sl g 1 (dB p), .lit (.int .i64 (i : Int))] S fun r S' => r = .lit (.int .i64 (bitN p i : Int)) ∧ S' = S := by
  refine TCall.of 21 [.tmp 4] Tryz.func108 rfl rfl rfl rfl (by kernel_rfl) rfl ?_
  refine TWp.sr fun K0 hK0 => ?_
  simp -implicitDefEqProofs (disch := omega) only [seval, go_sem]
  repeat (with_reducible refine ⟨by first | omega | exact Keep.push _ _ | exact KpL.push _ _, ?_⟩)
  refine hK0 _ _ ?_; try (clear hK0; clear K0)
  refine TWp.seq_k fun K1 hK1 => ?_
  refine TWp.sr fun K2 hK2 => ?_
  simp -implicitDefEqProofs (disch := omega) only [seval, go_sem]
  repeat (with_reducible refine ⟨by first | omega | exact Keep.push _ _ | exact KpL.push _ _, ?_⟩)
  refine hK2 _ _ ?_; try (clear hK2; clear K2)
  refine TWp.cond_k fun K3 hK3 => ?_
  simp -implicitDefEqProofs (disch := omega) only [seval, go_sem]
  refine hK3 _ (fun hb => ?_) (fun hb => ?_) <;> clear hK3 <;> clear K3
  · try (replace hb := of_decide_eq_true hb)
    refine TWp.sr fun K4 hK4 => ?_
    simp -implicitDefEqProofs (disch := omega) only [seval, go_sem]
    repeat (with_reducible refine ⟨by first | omega | exact Keep.push _ _ | exact KpL.push _ _, ?_⟩)
    refine hK4 _ _ ?_; try (clear hK4; clear K4)
    refine TWp.ret ⟨.inr rfl, [_], ⟨rfl, trivial⟩, ?_⟩
    exact ⟨by show TV.lit _ = _; rw [bitN, if_neg (by omega)]; rfl, rfl⟩
  · try (replace hb := of_decide_eq_false hb)
    refine TWp.skip ?_
    refine hK1 _ _ ?_; try (clear hK1; clear K1)
    refine TWp.sr fun K5 hK5 => ?_
    simp -implicitDefEqProofs (disch := omega) only [seval, go_sem]
    repeat (with_reducible refine ⟨by first | omega | exact Keep.push _ _ | exact KpL.push _ _, ?_⟩)
    refine hK5 _ _ ?_; try (clear hK5; clear K5)
    refine TWp.ret ⟨.inr rfl, [_], ⟨rfl, trivial⟩, ?_⟩
    refine ⟨?_, rfl⟩
    show TV.lit _ = _
    rw [bitN, if_pos (by omega)]
theorem c_godownref03_bit {S : TS} {g : Tag} {p : Bs} {i : Nat} {K : TV → TS → Prop} (hK : K (.lit (.int .i64 (bitN p i : Int))) S) (hp : p.length ≤ 1000000 := by omega) (hi : i ≤ 10000000 := by omega) : TCall env 108 [.sl g 1 (dB p), .lit (.int .i64 (i : Int))] S K :=
  (c_godownref03_bit_ok S g p i hp hi).mono fun t S' ⟨h1, h2⟩ => by rw [h1, h2]; exact hK
def bitsN (p : Bs) (i : Nat) : Nat → Nat
  | 0 => 0
  | k + 1 => 2 * bitsN p i k + bitN p (i + k)
theorem bitN_lt (p : Bs) (i : Nat) : bitN p i < 2 := by unfold bitN; split <;> omega
theorem bitsN_lt (p : Bs) (i : Nat) : ∀ k, bitsN p i k < 2 ^ k
  | 0 => by simp [bitsN]
  | k + 1 => by have := bitsN_lt p i k; have := bitN_lt p (i + k); simp only [bitsN, Nat.pow_succ]; omega
def txtN (p : Bs) : Nat → Bs
  | 0 => []
  | j + 1 => txtN p j ++ [b32.getD (bitsN p (5 * j) 5) 0#8]
/-- Bytes as letters. -/
def txtS (p : Bs) : Bs := txtN p ((8 * p.length + 4) / 5)
theorem txtN_len (p : Bs) : ∀ j, (txtN p j).length = j
  | 0 => rfl
  | j + 1 => by simp [txtN, txtN_len p j]
set_option maxRecDepth 8000 in
set_option maxHeartbeats 1000000 in
theorem c_godownref03_Text_ok (S : TS) (g : Tag) (p : Bs) (hp : p.length ≤ 100000) : TCall env 52 [.sl g 1 (dB p)] S fun r S' => r = .lit (.string (st (txtS p))) ∧ Keep S S' := by
  have hl := b32_len
  refine TCall.of 33 [.tmp 2] Tryz.func52 rfl rfl rfl rfl (by kernel_rfl) rfl ?_
  refine TWp.sr fun K0 hK0 => ?_
  simp -implicitDefEqProofs (disch := omega) only [seval, go_sem]
  repeat (with_reducible refine ⟨by first | omega | exact Keep.push _ _ | exact KpL.push _ _, ?_⟩)
  refine hK0 _ _ ?_; try (clear hK0; clear K0)
  refine TWp.sr fun K1 hK1 => ?_
  simp -implicitDefEqProofs (disch := omega) only [seval, go_sem]
  repeat (with_reducible refine ⟨by first | omega | exact Keep.push _ _ | exact KpL.push _ _, ?_⟩)
  refine hK1 _ _ ?_; try (clear hK1; clear K1)
  refine TWp.seq_k fun K2 hK2 => ?_
  refine TWp.sr fun K3 hK3 => ?_
  simp -implicitDefEqProofs (disch := omega) only [seval, go_sem]
  repeat (with_reducible refine ⟨by first | omega | exact Keep.push _ _ | exact KpL.push _ _, ?_⟩)
  refine hK3 _ _ ?_; try (clear hK3; clear K3)
  refine TWp.block ?_
  refine TWp.asRow 3 1 rfl (.inl rfl) ?_
  refine TWp.loop (fun n T S' => ∃ j k, n + 5 * j = 8 * p.length + 4 ∧ T 0 = .sl g 1 (dB p) ∧ T 3 = .sl (.own k) 1 (dB (txtN p j)) ∧ T 4 = .lit (.int .i64 ((5 * j : Nat) : Int)) ∧ S.n ≤ k ∧ S'.objs k = .lin ∧ Keep S S') (8 * p.length + 4) ?_ ?_
  · exact ⟨0, S.n, rfl, rfl, rfl, rfl, Nat.le_refl _, push_self _ _, Keep.push _ _⟩
  rintro n T S' ⟨j, k, hj, h0, h3, h4, hk, ho, hS⟩
  have htl := txtN_len p j
  obtain ⟨S1, hS1⟩ : ∃ S1, S1 = S' := ⟨_, rfl⟩
  refine TWp.seq_k fun K4 hK4 => ?_
  refine TWp.sr fun K5 hK5 => ?_
  simp -implicitDefEqProofs (disch := omega) only [seval, go_sem, h0, h3, h4, ho, htl]
  repeat (with_reducible refine ⟨by first | omega | exact Keep.push _ _ | exact KpL.push _ _, ?_⟩)
  refine hK5 _ _ ?_; try (clear hK5; clear K5)
  refine TWp.cond_k fun K6 hK6 => ?_
  simp -implicitDefEqProofs (disch := omega) only [seval, go_sem, h0, h3, h4, ho, htl]
  refine hK6 _ (fun hb => ?_) (fun hb => ?_) <;> clear hK6 <;> clear K6
  · try (replace hb := of_decide_eq_true hb)
    refine TWp.skip ?_
    refine hK4 _ _ ?_; try (clear hK4; clear K4)
    refine TWp.seq_k fun K7 hK7 => ?_
    refine TWp.block ?_
    refine TWp.sr fun K8 hK8 => ?_
    simp -implicitDefEqProofs (disch := omega) only [seval, go_sem, h0, h3, h4, ho, htl]
    repeat (with_reducible refine ⟨by first | omega | exact Keep.push _ _ | exact KpL.push _ _, ?_⟩)
    refine hK8 _ _ ?_; try (clear hK8; clear K8)
    refine TWp.seq_k fun K9 hK9 => ?_
    refine TWp.sr fun K10 hK10 => ?_
    simp -implicitDefEqProofs (disch := omega) only [seval, go_sem, h0, h3, h4, ho, htl]
    repeat (with_reducible refine ⟨by first | omega | exact Keep.push _ _ | exact KpL.push _ _, ?_⟩)
    refine hK10 _ _ ?_; try (clear hK10; clear K10)
    refine TWp.block ?_
    refine TWp.loop (fun n T S' => ∃ q, n + q = 5 ∧ T 0 = .sl g 1 (dB p) ∧ T 3 = .sl (.own k) 1 (dB (txtN p j)) ∧ T 4 = .lit (.int .i64 ((5 * j : Nat) : Int)) ∧ T 5 = .lit (.int .i64 (bitsN p (5 * j) q : Int)) ∧ T 6 = .lit (.int .i64 (q : Int)) ∧ S' = S1) (5) ?_ ?_
    · exact ⟨0, rfl, h0, h3, h4, rfl, rfl, hS1.symm⟩
    rintro n T S' ⟨q, hq, h0, h3, h4, h5, h6, hS2⟩
    have hbl := bitsN_lt p (5 * j) q
    have hbl2 : 2 ^ q ≤ 2 ^ 5 := Nat.pow_le_pow_right (by omega) (by omega)
    have hbl3 := bitN_lt p (5 * j + q)
    rw [hS1] at hS2
    rw [← hS2] at ho hS
    refine TWp.seq_k fun K11 hK11 => ?_
    refine TWp.sr fun K12 hK12 => ?_
    simp -implicitDefEqProofs (disch := omega) only [seval, go_sem, h0, h3, h4, h5, h6, ho, htl]
    repeat (with_reducible refine ⟨by first | omega | exact Keep.push _ _ | exact KpL.push _ _, ?_⟩)
    refine hK12 _ _ ?_; try (clear hK12; clear K12)
    refine TWp.cond_k fun K13 hK13 => ?_
    simp -implicitDefEqProofs (disch := omega) only [seval, go_sem, h0, h3, h4, h5, h6, ho, htl]
    refine hK13 _ (fun hb => ?_) (fun hb => ?_) <;> clear hK13 <;> clear K13
    · try (replace hb := of_decide_eq_true hb)
      refine TWp.skip ?_
      refine hK11 _ _ ?_; try (clear hK11; clear K11)
      refine TWp.seq_k fun K14 hK14 => ?_
      refine TWp.block ?_
      refine TWp.rk fun K15 hK15 => ?_
      simp -implicitDefEqProofs (disch := omega) only [seval, go_sem, h0, h3, h4, h5, h6, ho, htl]
      repeat (with_reducible refine ⟨by first | omega | exact Keep.push _ _ | exact KpL.push _ _, ?_⟩)
      refine c_godownref03_bit ?_
      simp -implicitDefEqProofs (disch := omega) only [seval, go_sem, h0, h3, h4, h5, h6, ho, htl]
      repeat (with_reducible refine ⟨by first | omega | exact Keep.push _ _ | exact KpL.push _ _, ?_⟩)
      refine hK15 _ _ ?_; try (clear hK15; clear K15)
      refine hK14 _ _ ?_; try (clear hK14; clear K14)
      refine TWp.rk fun K16 hK16 => ?_
      simp -implicitDefEqProofs (disch := omega) only [seval, go_sem, h0, h3, h4, h5, h6, ho, htl]
      repeat (with_reducible refine ⟨by first | omega | exact Keep.push _ _ | exact KpL.push _ _, ?_⟩)
      refine hK16 _ _ ?_; try (clear hK16; clear K16)
      exact ⟨n - 1, by omega, q + 1, by omega, h0, h3, h4, rfl, rfl, hS2.trans hS1.symm⟩
    · try (replace hb := of_decide_eq_false hb)
      refine TWp.exit ?_
      refine hK9 _ _ ?_; try (clear hK9; clear K9)
      refine TWp.rk fun K17 hK17 => ?_
      simp -implicitDefEqProofs (disch := omega) only [seval, go_sem, h0, h3, h4, h5, h6, ho, htl]
      repeat (with_reducible refine ⟨by first | omega | exact Keep.push _ _ | exact KpL.push _ _, ?_⟩)
      refine hK17 _ _ ?_; try (clear hK17; clear K17)
      refine hK7 _ _ ?_; try (clear hK7; clear K7)
      refine TWp.rk fun K18 hK18 => ?_
      simp -implicitDefEqProofs (disch := omega) only [seval, go_sem, h0, h3, h4, h5, h6, ho, htl]
      repeat (with_reducible refine ⟨by first | omega | exact Keep.push _ _ | exact KpL.push _ _, ?_⟩)
      refine hK18 _ _ ?_; try (clear hK18; clear K18)
      have h5' : q = 5 := by omega
      subst h5'
      exact ⟨8 * p.length + 4 - 5 * (j + 1), by omega, j + 1, S'.n, by omega, h0, by show TV.sl _ _ _ = _; rw [txtN, dB_app]; rfl, by show TV.lit _ = _; rw [Nat.mul_succ], hS.1, push_self (S'.set k .gone) _, (hS.set hk _).push' _⟩
  · try (replace hb := of_decide_eq_false hb)
    refine TWp.exit ?_
    refine hK2 _ _ ?_; try (clear hK2; clear K2)
    refine TWp.sr fun K19 hK19 => ?_
    simp -implicitDefEqProofs (disch := omega) only [seval, go_sem, h0, h3, h4, ho, htl]
    repeat (with_reducible refine ⟨by first | omega | exact Keep.push _ _ | exact KpL.push _ _, ?_⟩)
    refine hK19 _ _ ?_; try (clear hK19; clear K19)
    refine TWp.ret ⟨.inr rfl, [_], ⟨rfl, trivial⟩, ?_⟩
    exact ⟨by show TV.lit _ = _; rw [txtS, show (8 * p.length + 4) / 5 = j by omega], hS⟩
theorem c_godownref03_Text {S : TS} {g : Tag} {p : Bs} {K : TV → TS → Prop} (hK : K (.lit (.string (st (txtS p)))) S) (hp : p.length ≤ 100000 := by omega) : TCall env 52 [.sl g 1 (dB p)] S K :=
  (TCall.pure (c_godownref03_Text_ok S g p hp) (.lit _)).mono fun t S' ⟨h1, h2⟩ => by rw [h1, h2]; exact hK
end Go.Proofs.YtlljknmojafkoaaGreatDoor
namespace Go.Proofs.YtlljknmojafkoaaGreatDoor
open Go.RowKit TL
theorem shrN (P : Program) (ty : TypeId) (a : Nat) {k' : IntKind} (b : Int) (h : 0 ≤ b ∧ b < 64) : tvBin P .shr ty (.int .i64 (a : Int)) (.int k' b) = some (.int .i64 ((a >>> b.toNat : Nat) : Int)) := by
  obtain ⟨n, rfl⟩ : ∃ n : Nat, b = (n : Int) := ⟨b.toNat, by omega⟩
  simp only [tvBin]
  rw [if_pos (by simp)]
  simp only [tvShift]
  rw [if_neg (by omega)]
  have h1 : min (n : Int).toNat IntKind.i64.bits = n := by
    show min (n : Int).toNat 64 = n
    rw [Int.toNat_natCast]; omega
  have h3 : ((a : Int)).fdiv (2 ^ n) = ((a >>> n : Nat) : Int) := by
    rw [Int.fdiv_eq_ediv_of_nonneg _ (Int.le_of_lt (Int.pow_pos (by decide))), Nat.shiftRight_eq_div_pow]
    simp
  rw [h1, h3, Int.toNat_natCast]
attribute [go_sem high] shrN
theorem c_godownref03_value {S : TS} {c : BitVec 8} {K : TV → TS → Prop} (hK : K (.lit (.int .i64 (idxS b32 c))) S) : TCall env 196 [.lit (.int .u8 (c.toNat : Int))] S K :=
  (c_godownref03_value_ok S c).mono fun t S' ⟨h1, h2⟩ => by rw [h1, h2]; exact hK
/-- The first q bits of five. -/
def fiveB (v : Nat) : Nat → List Int
  | 0 => []
  | q + 1 => fiveB v q ++ [(((v >>> (4 - q)) % 2 : Nat) : Int)]
def allB (s : Bs) : Nat → List Int
  | 0 => []
  | i + 1 => allB s i ++ fiveB (idxS b32 (s.getD i 0#8)).toNat 5
theorem fiveB_len (v : Nat) : ∀ q, (fiveB v q).length = q
  | 0 => rfl
  | q + 1 => by simp [fiveB, fiveB_len v q]
theorem allB_len (s : Bs) : ∀ i, (allB s i).length = 5 * i
  | 0 => rfl
  | i + 1 => by simp [allB, allB_len s i, fiveB_len]; omega
theorem fiveB_bit (v : Nat) : ∀ q, ∀ x ∈ fiveB v q, 0 ≤ x ∧ x ≤ 1
  | 0, x, h => by cases h
  | q + 1, x, h => by
    simp only [fiveB, List.mem_append, List.mem_singleton] at h
    rcases h with h | h
    · exact fiveB_bit v q x h
    · subst h; omega
theorem allB_bit (s : Bs) : ∀ i, ∀ x ∈ allB s i, 0 ≤ x ∧ x ≤ 1
  | 0, x, h => by cases h
  | i + 1, x, h => by
    simp only [allB, List.mem_append] at h
    rcases h with h | h
    · exact allB_bit s i x h
    · exact fiveB_bit _ _ x h
def accB (bl : List Int) (o : Nat) : Nat → Int
  | 0 => 0
  | k + 1 => 2 * accB bl o k + bl.getD (o + k) 0
def packB (bl : List Int) : Nat → Bs
  | 0 => []
  | j + 1 => packB bl j ++ [BitVec.ofInt 8 (accB bl (8 * j) 8)]
theorem packB_len (bl : List Int) : ∀ j, (packB bl j).length = j
  | 0 => rfl
  | j + 1 => by simp [packB, packB_len bl j]
theorem getD_bit {bl : List Int} (h : ∀ x ∈ bl, 0 ≤ x ∧ x ≤ 1) (i : Nat) : 0 ≤ bl.getD i 0 ∧ bl.getD i 0 ≤ 1 := by
  rw [List.getD_eq_getElem?_getD]
  rcases hi : bl[i]? with _ | x
  · simp
  · exact h x (List.mem_of_getElem? hi)
theorem accB_lt {bl : List Int} (h : ∀ x ∈ bl, 0 ≤ x ∧ x ≤ 1) (o : Nat) : ∀ k, k ≤ 8 → 0 ≤ accB bl o k ∧ accB bl o k < 2 ^ k
  | 0, _ => by simp [accB]
  | k + 1, hk => by
    have h1 := accB_lt h o k (by omega); have h2 := getD_bit h (o + k)
    rw [Int.pow_succ]
    simp only [accB]; omega
def okB (s : Bs) : Bool := s.all fun c => decide (0 ≤ idxS b32 c)
def dec3 (s : Bs) : Option Bs :=
  if okB s = true ∧ ((allB s s.length).drop (8 * (5 * s.length / 8))).all (fun x => decide (x = 0)) = true ∧ 5 * s.length % 8 ≤ 4 then some (packB (allB s s.length) (5 * s.length / 8)) else none
theorem dec3_no2 {s : Bs} (h : ((allB s s.length).drop (8 * (5 * s.length / 8))).all (fun x => decide (x = 0)) = false) : dec3 s = none := by
  unfold dec3
  rw [if_neg]
  rintro ⟨_, h1, _⟩
  rw [h] at h1; cases h1
theorem dec3_no3 {s : Bs} (h : 4 < 5 * s.length % 8) : dec3 s = none := by
  unfold dec3
  rw [if_neg]
  rintro ⟨_, _, h1⟩
  omega
theorem dec3_yes {s : Bs} (h1 : okB s = true) (h2 : ((allB s s.length).drop (8 * (5 * s.length / 8))).all (fun x => decide (x = 0)) = true) (h3 : 5 * s.length % 8 ≤ 4) : dec3 s = some (packB (allB s s.length) (5 * s.length / 8)) := by
  unfold dec3
  rw [if_pos ⟨h1, h2, h3⟩]
theorem dec3_no1 {s : Bs} {i : Nat} (hi : i < s.length) (h : idxS b32 (s.getD i 0#8) < 0) : dec3 s = none := by
  unfold dec3
  rw [if_neg]
  rintro ⟨h1, _⟩
  rw [okB, all_not (d := 0#8) hi (decide_eq_false (by omega))] at h1
  cases h1
set_option maxRecDepth 8000 in
set_option maxHeartbeats 1000000 in
theorem c_godownref03_Bytes_ok (S : TS) (s : Bs) (hs : s.length ≤ 100000) : TCall env 152 [.lit (.string (st s))] S fun r S' => ((dec3 s = none ∧ r = .tup [.sl .full 0 [], .lit (.int .i64 2)]) ∨ ∃ p k, dec3 s = some p ∧ r = .tup [.sl (.own k) 1 (dB p), .lit (.int .i64 0)] ∧ S.n ≤ k ∧ S'.objs k = .lin) ∧ Keep S S' := by
  refine TCall.of 82 [.tmp 2, .tmp 3] Tryz.func152 rfl rfl rfl rfl (by kernel_rfl) rfl ?_
  refine TWp.sr fun K0 hK0 => ?_
  simp -implicitDefEqProofs (disch := omega) only [seval, go_sem]
  repeat (with_reducible refine ⟨by first | omega | exact Keep.push _ _ | exact KpL.push _ _, ?_⟩)
  refine hK0 _ _ ?_; try (clear hK0; clear K0)
  refine TWp.sr fun K1 hK1 => ?_
  simp -implicitDefEqProofs (disch := omega) only [seval, go_sem]
  repeat (with_reducible refine ⟨by first | omega | exact Keep.push _ _ | exact KpL.push _ _, ?_⟩)
  refine hK1 _ _ ?_; try (clear hK1; clear K1)
  refine TWp.seq_k fun K2 hK2 => ?_
  refine TWp.sr fun K3 hK3 => ?_
  simp -implicitDefEqProofs (disch := omega) only [seval, go_sem]
  repeat (with_reducible refine ⟨by first | omega | exact Keep.push _ _ | exact KpL.push _ _, ?_⟩)
  refine hK3 _ _ ?_; try (clear hK3; clear K3)
  refine TWp.block ?_
  refine TWp.asRow 4 1 rfl (.inl rfl) ?_
  refine TWp.loop (fun n T S' => ∃ i k, n + i = s.length ∧ T 0 = .lit (.string (st s)) ∧ T 2 = .sl .full 0 [] ∧ T 4 = .sl (.own k) 1 (dI (allB s i)) ∧ T 5 = .lit (.int .i64 (i : Int)) ∧ (s.take i).all (fun c => decide (0 ≤ idxS b32 c)) = true ∧ S.n ≤ k ∧ S'.objs k = .lin ∧ Keep S S') (s.length) ?_ ?_
  · exact ⟨0, S.n, rfl, rfl, rfl, rfl, rfl, rfl, Nat.le_refl _, push_self _ _, Keep.push _ _⟩
  rintro n T S' ⟨i, k, hi, h0, h2, h4, h5, ha, hk, ho, hS⟩
  obtain ⟨n', hn'⟩ : ∃ n', n' = n := ⟨_, rfl⟩
  rw [← hn'] at hi
  have hal := allB_len s i
  refine TWp.seq_k fun K4 hK4 => ?_
  refine TWp.sr fun K5 hK5 => ?_
  simp -implicitDefEqProofs (disch := omega) only [seval, go_sem, h0, h2, h4, h5, ho, hal]
  repeat (with_reducible refine ⟨by first | omega | exact Keep.push _ _ | exact KpL.push _ _, ?_⟩)
  refine hK5 _ _ ?_; try (clear hK5; clear K5)
  refine TWp.cond_k fun K6 hK6 => ?_
  simp -implicitDefEqProofs (disch := omega) only [seval, go_sem, h0, h2, h4, h5, ho, hal]
  refine hK6 _ (fun hb => ?_) (fun hb => ?_) <;> clear hK6 <;> clear K6
  · try (replace hb := of_decide_eq_true hb)
    refine TWp.skip ?_
    refine hK4 _ _ ?_; try (clear hK4; clear K4)
    refine TWp.seq_k fun K7 hK7 => ?_
    refine TWp.block ?_
    refine TWp.sr fun K8 hK8 => ?_
    simp -implicitDefEqProofs (disch := omega) only [seval, go_sem, h0, h2, h4, h5, ho, hal]
    repeat (with_reducible refine ⟨by first | omega | exact Keep.push _ _ | exact KpL.push _ _, ?_⟩)
    refine c_godownref03_value ?_
    simp -implicitDefEqProofs (disch := omega) only [seval, go_sem, h0, h2, h4, h5, ho, hal]
    repeat (with_reducible refine ⟨by first | omega | exact Keep.push _ _ | exact KpL.push _ _, ?_⟩)
    refine hK8 _ _ ?_; try (clear hK8; clear K8)
    refine TWp.seq_k fun K9 hK9 => ?_
    refine TWp.sr fun K10 hK10 => ?_
    simp -implicitDefEqProofs (disch := omega) only [seval, go_sem, h0, h2, h4, h5, ho, hal]
    repeat (with_reducible refine ⟨by first | omega | exact Keep.push _ _ | exact KpL.push _ _, ?_⟩)
    refine hK10 _ _ ?_; try (clear hK10; clear K10)
    refine TWp.cond_k fun K11 hK11 => ?_
    simp -implicitDefEqProofs (disch := omega) only [seval, go_sem, h0, h2, h4, h5, ho, hal]
    refine hK11 _ (fun hb => ?_) (fun hb => ?_) <;> clear hK11 <;> clear K11
    · try (replace hb := of_decide_eq_true hb)
      refine TWp.sr fun K12 hK12 => ?_
      simp -implicitDefEqProofs (disch := omega) only [seval, go_sem, h0, h2, h4, h5, ho, hal]
      repeat (with_reducible refine ⟨by first | omega | exact Keep.push _ _ | exact KpL.push _ _, ?_⟩)
      refine hK12 _ _ ?_; try (clear hK12; clear K12)
      refine TWp.ret ⟨.inr rfl, [_, _], ⟨rfl, rfl, trivial⟩, ?_⟩
      exact ⟨.inl ⟨dec3_no1 (i := i) (by omega) (by omega), rfl⟩, hS⟩
    · try (replace hb := of_decide_eq_false hb)
      refine TWp.skip ?_
      refine hK9 _ _ ?_; try (clear hK9; clear K9)
      refine TWp.sr fun K13 hK13 => ?_
      simp -implicitDefEqProofs (disch := omega) only [seval, go_sem, h0, h2, h4, h5, ho, hal]
      repeat (with_reducible refine ⟨by first | omega | exact Keep.push _ _ | exact KpL.push _ _, ?_⟩)
      refine hK13 _ _ ?_; try (clear hK13; clear K13)
      refine TWp.block ?_
      obtain ⟨v, hv⟩ : ∃ v : Nat, v = (idxS b32 (s.getD i 0#8)).toNat := ⟨_, rfl⟩
      refine TWp.loop (fun n T S' => ∃ q k, n + q = 5 ∧ T 0 = .lit (.string (st s)) ∧ T 2 = .sl .full 0 [] ∧ T 4 = .sl (.own k) 1 (dI (allB s i ++ fiveB v q)) ∧ T 5 = .lit (.int .i64 (i : Int)) ∧ T 6 = .lit (.int .i64 (v : Int)) ∧ T 7 = .lit (.int .i64 (4 - (q : Int))) ∧ S.n ≤ k ∧ S'.objs k = .lin ∧ Keep S S') (5) ?_ ?_
      · exact ⟨0, k, rfl, h0, h2, by rw [fiveB, List.append_nil]; exact h4, h5, by show TV.lit _ = _; rw [hv, Int.toNat_of_nonneg (by omega)], rfl, hk, ho, hS⟩
      rintro n T S' ⟨q, k, hq, h0, h2, h4, h5, h6, h7, hk, ho, hS⟩
      have hfl := fiveB_len v q
      have hal2 : (allB s i ++ fiveB v q).length = 5 * i + q := by rw [List.length_append, hal, hfl]
      refine TWp.seq_k fun K14 hK14 => ?_
      refine TWp.sr fun K15 hK15 => ?_
      simp -implicitDefEqProofs (disch := omega) only [seval, go_sem, h0, h2, h4, h5, h6, h7, ho, hal2]
      repeat (with_reducible refine ⟨by first | omega | exact Keep.push _ _ | exact KpL.push _ _, ?_⟩)
      refine hK15 _ _ ?_; try (clear hK15; clear K15)
      refine TWp.cond_k fun K16 hK16 => ?_
      simp -implicitDefEqProofs (disch := omega) only [seval, go_sem, h0, h2, h4, h5, h6, h7, ho, hal2]
      refine hK16 _ (fun hb => ?_) (fun hb => ?_) <;> clear hK16 <;> clear K16
      · try (replace hb := of_decide_eq_true hb)
        refine TWp.skip ?_
        refine hK14 _ _ ?_; try (clear hK14; clear K14)
        refine TWp.seq_k fun K17 hK17 => ?_
        refine TWp.block ?_
        refine TWp.rk fun K18 hK18 => ?_
        simp -implicitDefEqProofs (disch := omega) only [seval, go_sem, h0, h2, h4, h5, h6, h7, ho, hal2]
        repeat (with_reducible refine ⟨by first | omega | exact Keep.push _ _ | exact KpL.push _ _, ?_⟩)
        refine hK18 _ _ ?_; try (clear hK18; clear K18)
        refine hK17 _ _ ?_; try (clear hK17; clear K17)
        refine TWp.rk fun K19 hK19 => ?_
        simp -implicitDefEqProofs (disch := omega) only [seval, go_sem, h0, h2, h4, h5, h6, h7, ho, hal2]
        repeat (with_reducible refine ⟨by first | omega | exact Keep.push _ _ | exact KpL.push _ _, ?_⟩)
        refine hK19 _ _ ?_; try (clear hK19; clear K19)
        exact ⟨n - 1, by omega, q + 1, S'.n, by omega, h0, h2, by show TV.sl _ _ _ = _; rw [fiveB, ← List.append_assoc, dI_app (allB s i ++ fiveB v q)]; rfl, h5, h6, by show TV.lit _ = _; congr 2; omega, hS.1, push_self (S'.set k .gone) _, (hS.set hk _).push' _⟩
      · try (replace hb := of_decide_eq_false hb)
        refine TWp.exit ?_
        refine hK7 _ _ ?_; try (clear hK7; clear K7)
        refine TWp.rk fun K20 hK20 => ?_
        simp -implicitDefEqProofs (disch := omega) only [seval, go_sem, h0, h2, h4, h5, h6, h7, ho, hal2]
        repeat (with_reducible refine ⟨by first | omega | exact Keep.push _ _ | exact KpL.push _ _, ?_⟩)
        refine hK20 _ _ ?_; try (clear hK20; clear K20)
        have h5' : q = 5 := by omega
        subst h5'
        exact ⟨n' - 1, by omega, i + 1, k, by omega, h0, h2, by rw [allB, ← hv]; exact h4, rfl, take_all (d := 0#8) ha (by omega) (decide_eq_true (by omega)), hk, ho, hS⟩
  · try (replace hb := of_decide_eq_false hb)
    refine TWp.exit ?_
    refine hK2 _ _ ?_; try (clear hK2; clear K2)
    refine TWp.sr fun K21 hK21 => ?_
    simp -implicitDefEqProofs (disch := omega) only [seval, go_sem, h0, h2, h4, h5, ho, hal]
    repeat (with_reducible refine ⟨by first | omega | exact Keep.push _ _ | exact KpL.push _ _, ?_⟩)
    refine hK21 _ _ ?_; try (clear hK21; clear K21)
    refine TWp.seq_k fun K22 hK22 => ?_
    refine TWp.sr fun K23 hK23 => ?_
    simp -implicitDefEqProofs (disch := omega) only [seval, go_sem, h0, h2, h4, h5, ho, hal]
    repeat (with_reducible refine ⟨by first | omega | exact Keep.push _ _ | exact KpL.push _ _, ?_⟩)
    refine hK23 _ _ ?_; try (clear hK23; clear K23)
    refine TWp.block ?_
    refine TWp.asRow 8 1 rfl (.inl rfl) ?_
    have hie : i = s.length := by omega
    subst hie
    obtain ⟨bl, hbe⟩ : ∃ bl, bl = allB s s.length := ⟨_, rfl⟩
    have hbl : bl.length = 5 * s.length := by rw [hbe, allB_len]
    have hbit : ∀ x ∈ bl, 0 ≤ x ∧ x ≤ 1 := by rw [hbe]; exact allB_bit s _
    refine TWp.loop (fun n T S' => ∃ j k k2, n + 8 * j = 5 * s.length ∧ T 2 = .sl .full 0 [] ∧ T 4 = .sl (.own k2) 1 (dI bl) ∧ T 8 = .sl (.own k) 1 (dB (packB bl j)) ∧ T 9 = .lit (.int .i64 ((8 * j : Nat) : Int)) ∧ S.n ≤ k ∧ S'.objs k = .lin ∧ Keep S S') (5 * s.length) ?_ ?_
    · exact ⟨0, S'.n, k, rfl, h2, by rw [hbe]; exact h4, rfl, rfl, hS.1, push_self _ _, hS.push' _⟩
    rintro n T S' ⟨j, k, k2, hj, h2, h4, h8, h9, hk, ho, hS⟩
    have hpl := packB_len bl j
    obtain ⟨S1, hS1⟩ : ∃ S1, S1 = S' := ⟨_, rfl⟩
    refine TWp.seq_k fun K24 hK24 => ?_
    refine TWp.sr fun K25 hK25 => ?_
    simp -implicitDefEqProofs (disch := omega) only [seval, go_sem, h2, h4, h8, h9, ho, hpl, hbl]
    repeat (with_reducible refine ⟨by first | omega | exact Keep.push _ _ | exact KpL.push _ _, ?_⟩)
    refine hK25 _ _ ?_; try (clear hK25; clear K25)
    refine TWp.cond_k fun K26 hK26 => ?_
    simp -implicitDefEqProofs (disch := omega) only [seval, go_sem, h2, h4, h8, h9, ho, hpl, hbl]
    refine hK26 _ (fun hb => ?_) (fun hb => ?_) <;> clear hK26 <;> clear K26
    · try (replace hb := of_decide_eq_true hb)
      refine TWp.skip ?_
      refine hK24 _ _ ?_; try (clear hK24; clear K24)
      refine TWp.seq_k fun K27 hK27 => ?_
      refine TWp.block ?_
      refine TWp.sr fun K28 hK28 => ?_
      simp -implicitDefEqProofs (disch := omega) only [seval, go_sem, h2, h4, h8, h9, ho, hpl, hbl]
      repeat (with_reducible refine ⟨by first | omega | exact Keep.push _ _ | exact KpL.push _ _, ?_⟩)
      refine hK28 _ _ ?_; try (clear hK28; clear K28)
      refine TWp.seq_k fun K29 hK29 => ?_
      refine TWp.sr fun K30 hK30 => ?_
      simp -implicitDefEqProofs (disch := omega) only [seval, go_sem, h2, h4, h8, h9, ho, hpl, hbl]
      repeat (with_reducible refine ⟨by first | omega | exact Keep.push _ _ | exact KpL.push _ _, ?_⟩)
      refine hK30 _ _ ?_; try (clear hK30; clear K30)
      refine TWp.block ?_
      refine TWp.loop (fun n T S' => ∃ q, n + q = 8 ∧ T 2 = .sl .full 0 [] ∧ T 4 = .sl (.own k2) 1 (dI bl) ∧ T 8 = .sl (.own k) 1 (dB (packB bl j)) ∧ T 9 = .lit (.int .i64 ((8 * j : Nat) : Int)) ∧ T 10 = .lit (.int .i64 (accB bl (8 * j) q)) ∧ T 11 = .lit (.int .i64 (q : Int)) ∧ S' = S1) (8) ?_ ?_
      · exact ⟨0, rfl, h2, h4, h8, h9, rfl, rfl, hS1.symm⟩
      rintro n T S' ⟨q, hq, h2, h4, h8, h9, h10, h11, hS2⟩
      have hac := accB_lt hbit (8 * j) q (by omega)
      have hac2 : (2 : Int) ^ q ≤ 256 := by have := Nat.pow_le_pow_right (n := 2) (by omega) (show q ≤ 8 by omega); exact_mod_cast this
      have hgb := getD_bit hbit (8 * j + q)
      rw [hS1] at hS2
      rw [← hS2] at ho hS
      refine TWp.seq_k fun K31 hK31 => ?_
      refine TWp.sr fun K32 hK32 => ?_
      simp -implicitDefEqProofs (disch := omega) only [seval, go_sem, h2, h4, h8, h9, h10, h11, ho, hpl, hbl]
      repeat (with_reducible refine ⟨by first | omega | exact Keep.push _ _ | exact KpL.push _ _, ?_⟩)
      refine hK32 _ _ ?_; try (clear hK32; clear K32)
      refine TWp.cond_k fun K33 hK33 => ?_
      simp -implicitDefEqProofs (disch := omega) only [seval, go_sem, h2, h4, h8, h9, h10, h11, ho, hpl, hbl]
      refine hK33 _ (fun hb => ?_) (fun hb => ?_) <;> clear hK33 <;> clear K33
      · try (replace hb := of_decide_eq_true hb)
        refine TWp.skip ?_
        refine hK31 _ _ ?_; try (clear hK31; clear K31)
        refine TWp.seq_k fun K34 hK34 => ?_
        refine TWp.block ?_
        refine TWp.rk fun K35 hK35 => ?_
        simp -implicitDefEqProofs (disch := omega) only [seval, go_sem, h2, h4, h8, h9, h10, h11, ho, hpl, hbl]
        repeat (with_reducible refine ⟨by first | omega | exact Keep.push _ _ | exact KpL.push _ _, ?_⟩)
        refine hK35 _ _ ?_; try (clear hK35; clear K35)
        refine hK34 _ _ ?_; try (clear hK34; clear K34)
        refine TWp.rk fun K36 hK36 => ?_
        simp -implicitDefEqProofs (disch := omega) only [seval, go_sem, h2, h4, h8, h9, h10, h11, ho, hpl, hbl]
        repeat (with_reducible refine ⟨by first | omega | exact Keep.push _ _ | exact KpL.push _ _, ?_⟩)
        refine hK36 _ _ ?_; try (clear hK36; clear K36)
        exact ⟨n - 1, by omega, q + 1, by omega, h2, h4, h8, h9, rfl, rfl, hS2.trans hS1.symm⟩
      · try (replace hb := of_decide_eq_false hb)
        refine TWp.exit ?_
        refine hK29 _ _ ?_; try (clear hK29; clear K29)
        refine TWp.rk fun K37 hK37 => ?_
        simp -implicitDefEqProofs (disch := omega) only [seval, go_sem, h2, h4, h8, h9, h10, h11, ho, hpl, hbl]
        repeat (with_reducible refine ⟨by first | omega | exact Keep.push _ _ | exact KpL.push _ _, ?_⟩)
        refine hK37 _ _ ?_; try (clear hK37; clear K37)
        refine hK27 _ _ ?_; try (clear hK27; clear K27)
        refine TWp.rk fun K38 hK38 => ?_
        simp -implicitDefEqProofs (disch := omega) only [seval, go_sem, h2, h4, h8, h9, h10, h11, ho, hpl, hbl]
        repeat (with_reducible refine ⟨by first | omega | exact Keep.push _ _ | exact KpL.push _ _, ?_⟩)
        refine hK38 _ _ ?_; try (clear hK38; clear K38)
        have h5' : q = 8 := by omega
        subst h5'
        exact ⟨5 * s.length - 8 * (j + 1), by omega, j + 1, S'.n, k2, by omega, h2, h4, by show TV.sl _ _ _ = _; rw [packB, dB_app]; rfl, by show TV.lit _ = _; rw [Nat.mul_succ], hS.1, push_self (S'.set k .gone) _, (hS.set hk _).push' _⟩
    · try (replace hb := of_decide_eq_false hb)
      refine TWp.exit ?_
      refine hK22 _ _ ?_; try (clear hK22; clear K22)
      refine TWp.sr fun K39 hK39 => ?_
      simp -implicitDefEqProofs (disch := omega) only [seval, go_sem, h2, h4, h8, h9, ho, hpl, hbl]
      repeat (with_reducible refine ⟨by first | omega | exact Keep.push _ _ | exact KpL.push _ _, ?_⟩)
      refine hK39 _ _ ?_; try (clear hK39; clear K39)
      refine TWp.seq_k fun K40 hK40 => ?_
      refine TWp.sr fun K41 hK41 => ?_
      simp -implicitDefEqProofs (disch := omega) only [seval, go_sem, h2, h4, h8, h9, ho, hpl, hbl]
      repeat (with_reducible refine ⟨by first | omega | exact Keep.push _ _ | exact KpL.push _ _, ?_⟩)
      refine hK41 _ _ ?_; try (clear hK41; clear K41)
      refine TWp.block ?_
      obtain ⟨rest, hre⟩ : ∃ rest, rest = bl.drop (j * 8) := ⟨_, rfl⟩
      have hjm : j = 5 * s.length / 8 := by omega
      have hre2 : rest = (allB s s.length).drop (8 * (5 * s.length / 8)) := by rw [hre, hbe, ← hjm, Nat.mul_comm]
      have hok : okB s = true := by have := ha; rwa [List.take_length] at this
      have hrl : rest.length = 5 * s.length - 8 * (5 * s.length / 8) := by rw [hre, List.length_drop, hbl]; omega
      obtain ⟨p, hp⟩ : ∃ p, p = packB bl j := ⟨_, rfl⟩
      refine TWp.loop (fun n T S' => ∃ i : Nat, n + i = 5 * s.length - 8 * (5 * s.length / 8) ∧ T 2 = .sl .full 0 [] ∧ T 12 = .sl (.own k2) 1 (dI rest) ∧ T 8 = .sl (.own k) 1 (dB p) ∧ T 13 = .lit (.int .i64 (i : Int)) ∧ (rest.take i).all (fun x => decide (x = 0)) = true ∧ S.n ≤ k ∧ S'.objs k = .lin ∧ Keep S S') (5 * s.length - 8 * (5 * s.length / 8)) ?_ ?_
      · exact ⟨0, by omega, h2, by show TV.sl _ _ _ = _; rw [hre], by rw [hp]; exact h8, rfl, rfl, hk, ho, hS⟩
      rintro n T S' ⟨i, hi, h2, h12, h8, h13, ha2, hk, ho, hS⟩
      refine TWp.seq_k fun K42 hK42 => ?_
      refine TWp.sr fun K43 hK43 => ?_
      simp -implicitDefEqProofs (disch := omega) only [seval, go_sem, h2, h12, h8, h13, ho, hrl]
      repeat (with_reducible refine ⟨by first | omega | exact Keep.push _ _ | exact KpL.push _ _, ?_⟩)
      refine hK43 _ _ ?_; try (clear hK43; clear K43)
      refine TWp.cond_k fun K44 hK44 => ?_
      simp -implicitDefEqProofs (disch := omega) only [seval, go_sem, h2, h12, h8, h13, ho, hrl]
      refine hK44 _ (fun hb => ?_) (fun hb => ?_) <;> clear hK44 <;> clear K44
      · try (replace hb := of_decide_eq_true hb)
        refine TWp.skip ?_
        refine hK42 _ _ ?_; try (clear hK42; clear K42)
        refine TWp.seq_k fun K45 hK45 => ?_
        refine TWp.block ?_
        refine TWp.sr fun K46 hK46 => ?_
        simp -implicitDefEqProofs (disch := omega) only [seval, go_sem, h2, h12, h8, h13, ho, hrl]
        repeat (with_reducible refine ⟨by first | omega | exact Keep.push _ _ | exact KpL.push _ _, ?_⟩)
        refine hK46 _ _ ?_; try (clear hK46; clear K46)
        refine TWp.cond_k fun K47 hK47 => ?_
        simp -implicitDefEqProofs (disch := omega) only [seval, go_sem, h2, h12, h8, h13, ho, hrl]
        refine hK47 _ (fun hb => ?_) (fun hb => ?_) <;> clear hK47 <;> clear K47
        · try (replace hb := of_decide_eq_true hb)
          refine TWp.sr fun K48 hK48 => ?_
          simp -implicitDefEqProofs (disch := omega) only [seval, go_sem, h2, h12, h8, h13, ho, hrl]
          repeat (with_reducible refine ⟨by first | omega | exact Keep.push _ _ | exact KpL.push _ _, ?_⟩)
          refine hK48 _ _ ?_; try (clear hK48; clear K48)
          refine TWp.ret ⟨.inr rfl, [_, _], ⟨rfl, rfl, trivial⟩, ?_⟩
          exact ⟨.inl ⟨dec3_no2 (by rw [← hre2]; exact all_not (i := i) (d := 0) (by omega) (decide_eq_false (by omega))), rfl⟩, hS⟩
        · try (replace hb := of_decide_eq_false hb)
          refine TWp.skip ?_
          refine hK45 _ _ ?_; try (clear hK45; clear K45)
          refine TWp.rk fun K49 hK49 => ?_
          simp -implicitDefEqProofs (disch := omega) only [seval, go_sem, h2, h12, h8, h13, ho, hrl]
          repeat (with_reducible refine ⟨by first | omega | exact Keep.push _ _ | exact KpL.push _ _, ?_⟩)
          refine hK49 _ _ ?_; try (clear hK49; clear K49)
          exact ⟨n - 1, by omega, i + 1, by omega, h2, h12, h8, rfl, take_all (d := 0) ha2 (by omega) (decide_eq_true (by omega)), hk, ho, hS⟩
      · try (replace hb := of_decide_eq_false hb)
        refine TWp.exit ?_
        refine hK40 _ _ ?_; try (clear hK40; clear K40)
        refine TWp.seq_k fun K50 hK50 => ?_
        refine TWp.sr fun K51 hK51 => ?_
        simp -implicitDefEqProofs (disch := omega) only [seval, go_sem, h2, h12, h8, h13, ho, hrl]
        repeat (with_reducible refine ⟨by first | omega | exact Keep.push _ _ | exact KpL.push _ _, ?_⟩)
        refine hK51 _ _ ?_; try (clear hK51; clear K51)
        refine TWp.cond_k fun K52 hK52 => ?_
        simp -implicitDefEqProofs (disch := omega) only [seval, go_sem, h2, h12, h8, h13, ho, hrl]
        refine hK52 _ (fun hb => ?_) (fun hb => ?_) <;> clear hK52 <;> clear K52
        · try (replace hb := of_decide_eq_true hb)
          refine TWp.sr fun K53 hK53 => ?_
          simp -implicitDefEqProofs (disch := omega) only [seval, go_sem, h2, h12, h8, h13, ho, hrl]
          repeat (with_reducible refine ⟨by first | omega | exact Keep.push _ _ | exact KpL.push _ _, ?_⟩)
          refine hK53 _ _ ?_; try (clear hK53; clear K53)
          refine TWp.ret ⟨.inr rfl, [_, _], ⟨rfl, rfl, trivial⟩, ?_⟩
          exact ⟨.inl ⟨dec3_no3 (by omega), rfl⟩, hS⟩
        · try (replace hb := of_decide_eq_false hb)
          refine TWp.skip ?_
          refine hK50 _ _ ?_; try (clear hK50; clear K50)
          refine TWp.sr fun K54 hK54 => ?_
          simp -implicitDefEqProofs (disch := omega) only [seval, go_sem, h2, h12, h8, h13, ho, hrl]
          repeat (with_reducible refine ⟨by first | omega | exact Keep.push _ _ | exact KpL.push _ _, ?_⟩)
          refine hK54 _ _ ?_; try (clear hK54; clear K54)
          refine TWp.ret ⟨.inr rfl, [_, _], ⟨rfl, rfl, trivial⟩, ?_⟩
          have ha3 : rest.all (fun x => decide (x = 0)) = true := by rw [← ha2, List.take_of_length_le (by omega)]
          exact ⟨.inr ⟨p, k, by rw [hp, hbe, hjm]; exact dec3_yes hok (by rw [← hre2]; exact ha3) (by omega), rfl, hk, ho⟩, hS⟩
theorem c_godownref03_Bytes_no {S : TS} {s : Bs} {K : TV → TS → Prop} (hK : K (.tup [.sl .full 0 [], .lit (.int .i64 2)]) S) (hd : dec3 s = none) (hs : s.length ≤ 100000 := by omega) : TCall env 152 [.lit (.string (st s))] S K := by
  refine (TCall.pure (r := .tup [.sl .full 0 [], .lit (.int .i64 2)]) ((c_godownref03_Bytes_ok S s hs).mono ?_) (.tupF (.cons (.sl0 _ _ _ (.inr (.inl rfl))) (.cons (.lit _) .nil)))).mono fun t S' ⟨h1, h2⟩ => by rw [h1, h2]; exact hK
  rintro t S' ⟨⟨_, h2⟩ | ⟨p, k, h1, _⟩, h3⟩
  · exact ⟨h2, h3⟩
  · rw [hd] at h1; cases h1
theorem c_godownref03_Bytes {S : TS} {s p : Bs} {K : TV → TS → Prop} (hK : K (.tup [.sl (.own S.n) 1 (dB p), .lit (.int .i64 0)]) (S.push .lin)) (hd : dec3 s = some p) (hs : s.length ≤ 100000 := by omega) : TCall env 152 [.lit (.string (st s))] S K := by
  refine (c_godownref03_Bytes_ok S s hs).forget fun t S1 hw h => ?_
  rcases h with ⟨⟨h1, _⟩ | ⟨q, k, h1, h2, h3, h4⟩, h5⟩
  · rw [hd] at h1; cases h1
  · rw [hd] at h1; injection h1 with h1; subst h1
    exact ⟨[k], _, _, .row hw h5 h3 h4, by rw [h2]; exact .tupF (.cons (.sl 0 k 1 _ rfl) (.cons (.lit _) .nil)), hK⟩
end Go.Proofs.YtlljknmojafkoaaGreatDoor
namespace Go.Proofs.YtlljknmojafkoaaGreatDoor
open Go.RowKit TL
theorem packB_get {bl : List Int} : ∀ {j i : Nat}, i < j → (packB bl j).getD i 0#8 = BitVec.ofInt 8 (accB bl (8 * i) 8)
  | 0, i, h => absurd h (by omega)
  | j + 1, i, h => by
    simp only [packB]
    rw [List.getD_eq_getElem?_getD, List.getElem?_append]
    split
    · rename_i h2
      rw [packB_len] at h2
      rw [← List.getD_eq_getElem?_getD, packB_get h2]
    · rename_i h2
      rw [packB_len] at h2 ⊢
      have : i = j := by omega
      subst this
      simp
theorem acc_bit {bl : List Int} (h : ∀ x ∈ bl, 0 ≤ x ∧ x ≤ 1) (o k : Nat) (hk : k < 8) : (((BitVec.ofInt 8 (accB bl o 8)) >>> (7 - k)).toNat % 2 : Nat) = (bl.getD (o + k) 0).toNat := by
  have b0 := getD_bit h (o + 0); have b1 := getD_bit h (o + 1); have b2 := getD_bit h (o + 2); have b3 := getD_bit h (o + 3)
  have b4 := getD_bit h (o + 4); have b5 := getD_bit h (o + 5); have b6 := getD_bit h (o + 6); have b7 := getD_bit h (o + 7)
  rw [BitVec.toNat_ushiftRight, BitVec.toNat_ofInt, Nat.shiftRight_eq_div_pow]
  simp only [accB]
  have hc : k = 0 ∨ k = 1 ∨ k = 2 ∨ k = 3 ∨ k = 4 ∨ k = 5 ∨ k = 6 ∨ k = 7 := by omega
  generalize hx0 : bl.getD (o + 0) 0 = x0 at *
  generalize hx1 : bl.getD (o + 1) 0 = x1 at *
  generalize hx2 : bl.getD (o + 2) 0 = x2 at *
  generalize hx3 : bl.getD (o + 3) 0 = x3 at *
  generalize hx4 : bl.getD (o + 4) 0 = x4 at *
  generalize hx5 : bl.getD (o + 5) 0 = x5 at *
  generalize hx6 : bl.getD (o + 6) 0 = x6 at *
  generalize hx7 : bl.getD (o + 7) 0 = x7 at *
  rcases hc with rfl | rfl | rfl | rfl | rfl | rfl | rfl | rfl
  · rw [hx0]; simp only [Nat.reduceSub, Nat.reducePow]; omega
  · rw [hx1]; simp only [Nat.reduceSub, Nat.reducePow]; omega
  · rw [hx2]; simp only [Nat.reduceSub, Nat.reducePow]; omega
  · rw [hx3]; simp only [Nat.reduceSub, Nat.reducePow]; omega
  · rw [hx4]; simp only [Nat.reduceSub, Nat.reducePow]; omega
  · rw [hx5]; simp only [Nat.reduceSub, Nat.reducePow]; omega
  · rw [hx6]; simp only [Nat.reduceSub, Nat.reducePow]; omega
  · rw [hx7]; simp only [Nat.reduceSub, Nat.reducePow]; omega
theorem bitN_pack {bl : List Int} (h : ∀ x ∈ bl, 0 ≤ x ∧ x ≤ 1) {j i : Nat} (hi : i < 8 * j) : bitN (packB bl j) i = (bl.getD i 0).toNat := by
  have h1 : i / 8 < j := by omega
  rw [bitN, if_pos (by rw [packB_len]; exact h1), packB_get h1, acc_bit h _ _ (Nat.mod_lt _ (by decide)), show 8 * (i / 8) + i % 8 = i by omega]
theorem bitsN_pack {bl : List Int} (h : ∀ x ∈ bl, 0 ≤ x ∧ x ≤ 1) {j o : Nat} : ∀ k, o + k ≤ 8 * j → (bitsN (packB bl j) o k : Int) = accB bl o k
  | 0, _ => rfl
  | k + 1, hk => by
    have h1 := bitsN_pack (o := o) (j := j) h k (by omega)
    have h2 := getD_bit h (o + k)
    simp only [bitsN, accB]
    rw [bitN_pack h (by omega)]
    omega
theorem allB_get (s : Bs) : ∀ {n i k : Nat}, i < n → k < 5 → (allB s n).getD (5 * i + k) 0 = (fiveB (idxS b32 (s.getD i 0#8)).toNat 5).getD k 0
  | 0, i, k, h, _ => absurd h (by omega)
  | n + 1, i, k, h, hk => by
    simp only [allB]
    rw [List.getD_eq_getElem?_getD, List.getElem?_append]
    split
    · rename_i h2
      rw [allB_len] at h2
      rw [← List.getD_eq_getElem?_getD, allB_get s (n := n) (by omega) hk]
    · rename_i h2
      rw [allB_len] at h2 ⊢
      have : i = n := by omega
      subst this
      rw [← List.getD_eq_getElem?_getD, show 5 * i + k - 5 * i = k by omega]
theorem five_all (v : Nat) (h : v < 32) : 2 * (2 * (2 * (2 * (2 * 0 + (fiveB v 5).getD 0 0) + (fiveB v 5).getD 1 0) + (fiveB v 5).getD 2 0) + (fiveB v 5).getD 3 0) + (fiveB v 5).getD 4 0 = (v : Int) := by
  simp only [fiveB, List.nil_append, List.cons_append, List.getD_cons_zero, List.getD_cons_succ, Nat.shiftRight_eq_div_pow]
  omega
theorem acc_all {s : Bs} {n i : Nat} (hi : i < n) (h0 : idxS b32 (s.getD i 0#8) < 32) : accB (allB s n) (5 * i) 5 = ((idxS b32 (s.getD i 0#8)).toNat : Int) := by
  simp only [accB]
  rw [allB_get s hi (by omega), allB_get s hi (by omega), allB_get s hi (by omega), allB_get s hi (by omega), allB_get s hi (by omega)]
  exact five_all _ (by omega)
theorem idx_spec (c : BitVec 8) : idxS b32 c < 32 ∧ (0 ≤ idxS b32 c → b32.getD (idxS b32 c).toNat 0#8 = c) := by
  unfold idxS
  split
  · rename_i i h
    have h1 := List.mem_range.1 (List.mem_of_find?_eq_some h)
    have h2 := List.find?_some h
    rw [b32_len] at h1
    refine ⟨by omega, fun _ => ?_⟩
    rw [Int.toNat_natCast]
    simpa using h2
  · exact ⟨by decide, fun h => absurd h (by decide)⟩
theorem txtN_pack {s : Bs} (hok : okB s = true) {j : Nat} : ∀ n, n ≤ s.length → 5 * n ≤ 8 * j → txtN (packB (allB s s.length) j) n = s.take n
  | 0, _, _ => by simp [txtN]
  | n + 1, h1, h2 => by
    have hn : n < s.length := by omega
    have ih := txtN_pack hok (j := j) n (by omega) (by omega)
    have hi := idx_spec (s.getD n 0#8)
    have hp : 0 ≤ idxS b32 (s.getD n 0#8) := by
      have := (List.all_eq_true.1 hok) _ (mem_getD hn)
      simpa using this
    have e : bitsN (packB (allB s s.length) j) (5 * n) 5 = (idxS b32 (s.getD n 0#8)).toNat := by
      have := bitsN_pack (allB_bit s s.length) (j := j) (o := 5 * n) 5 (by omega)
      rw [acc_all hn hi.1] at this
      omega
    simp only [txtN]
    rw [ih, e, hi.2 hp, List.take_add_one, List.getElem?_eq_getElem hn, List.getD_eq_getElem?_getD, List.getElem?_eq_getElem hn]
    rfl
/-- Letters whose bits are whole bytes: as bytes and back. -/
theorem txt_pack {s : Bs} (hok : okB s = true) (h : 5 * s.length % 8 = 0) : txtS (packB (allB s s.length) (5 * s.length / 8)) = s := by
  rw [txtS, packB_len, show (8 * (5 * s.length / 8) + 4) / 5 = s.length by omega, txtN_pack hok _ (Nat.le_refl _) (by omega), List.take_length]
theorem dec3_whole {s : Bs} (h : 5 * s.length % 8 = 0) : dec3 s = if okB s = true then some (packB (allB s s.length) (5 * s.length / 8)) else none := by
  unfold dec3
  by_cases hok : okB s = true
  · rw [if_pos hok, if_pos]
    refine ⟨hok, ?_, by omega⟩
    rw [List.drop_of_length_le (by rw [allB_len]; omega)]
    rfl
  · rw [if_neg hok, if_neg fun h => hok h.1]
/-- What a path is: its letters, its name. -/
def splitS (s : Bs) : Option (Bs × Bs) :=
  if 34 ≤ s.length ∧ (s.getD 32 0#8).toNat = 45 ∧ rightS (s.drop 33) = true ∧ okB (s.take 32) = true then some (s.take 32, s.drop 33) else none
def splitV (s : Bs) : TV := match splitS s with
  | some (a, b) => .tup [.lit (.string (st a)), .lit (.string (st b)), .lit (.bool true)]
  | none => .tup [.lit (.string (st [])), .lit (.string (st [])), .lit (.bool false)]
theorem split_no {s : Bs} (h : s.length < 34 ∨ (s.getD 32 0#8).toNat ≠ 45 ∨ rightS (s.drop 33) = false ∨ okB (s.take 32) = false) : splitV s = .tup [.lit (.string (st [])), .lit (.string (st [])), .lit (.bool false)] := by
  have : splitS s = none := by
    unfold splitS
    rw [if_neg]
    rintro ⟨h1, h2, h3, h4⟩
    rcases h with h | h | h | h
    · omega
    · exact h h2
    · rw [h] at h3; cases h3
    · rw [h] at h4; cases h4
  rw [splitV, this]
theorem split_yes {s : Bs} (h1 : 34 ≤ s.length) (h2 : (s.getD 32 0#8).toNat = 45) (h3 : rightS (s.drop 33) = true) (h4 : okB (s.take 32) = true) : splitV s = .tup [.lit (.string (st (s.take 32))), .lit (.string (st (s.drop 33))), .lit (.bool true)] := by
  have : splitS s = some (s.take 32, s.drop 33) := by
    unfold splitS
    rw [if_pos ⟨h1, h2, h3, h4⟩]
  rw [splitV, this]
end Go.Proofs.YtlljknmojafkoaaGreatDoor
namespace Go.Proofs.YtlljknmojafkoaaGreatDoor
open Go.RowKit TL
theorem followsN : env.P.follows .mixedOrders = true := by kernel_rfl
set_option maxRecDepth 8000 in
set_option maxHeartbeats 1000000 in
theorem c_godownref07_Split_true (S : TS) (s : Bs) (hs : s.length ≤ 100000) (hok : okB (s.take 32) = true) : TCall env 105 [.lit (.string (st s))] S fun r S' => r = splitV s ∧ Keep S S' := by
  refine TCall.of 33 [.tmp 2, .tmp 3, .tmp 4] Tryz.func105 rfl rfl rfl rfl (by kernel_rfl) rfl ?_
  refine TWp.sr fun K0 hK0 => ?_
  simp -implicitDefEqProofs (disch := omega) only [seval, go_sem]
  repeat (with_reducible refine ⟨by first | omega | exact Keep.push _ _ | exact KpL.push _ _, ?_⟩)
  refine hK0 _ _ ?_; try (clear hK0; clear K0)
  refine TWp.seq_k fun K1 hK1 => ?_
  refine TWp.sr fun K2 hK2 => ?_
  simp -implicitDefEqProofs (disch := omega) only [seval, go_sem]
  repeat' (first | with_reducible refine ⟨by first | omega | exact Keep.push _ _ | exact KpL.push _ _, ?_⟩ | (refine brT_split (fun hb => ?_) (fun hb => ?_) <;> (have hb' := hb; try simp only [decide_eq_true_eq, decide_eq_false_iff_not] at hb') <;> simp -implicitDefEqProofs (disch := omega) only [seval, go_sem, hb]))
  all_goals try (refine c_godownref07_Right ?_; simp -implicitDefEqProofs (disch := omega) only [seval, go_sem])
  all_goals repeat' (first | with_reducible refine ⟨by first | omega | exact Keep.push _ _ | exact KpL.push _ _, ?_⟩ | (refine brT_split (fun hb => ?_) (fun hb => ?_) <;> (have hb' := hb; try simp only [decide_eq_true_eq, decide_eq_false_iff_not] at hb') <;> simp -implicitDefEqProofs (disch := omega) only [seval, go_sem, hb]))
  all_goals
    refine hK2 _ _ ?_; try (clear hK2; clear K2)
    refine TWp.cond_k fun K3 hK3 => ?_
    simp -implicitDefEqProofs (disch := omega) only [seval, go_sem]
    refine hK3 _ (fun hb => ?_) (fun hb => ?_) <;> clear hK3 <;> clear K3
    · try (replace hb := of_decide_eq_true hb)
      try (exact absurd hb (by decide))
      all_goals
        refine TWp.sr fun K4 hK4 => ?_
        simp -implicitDefEqProofs (disch := omega) only [seval, go_sem]
        repeat (with_reducible refine ⟨by first | omega | exact Keep.push _ _ | exact KpL.push _ _, ?_⟩)
        refine hK4 _ _ ?_; try (clear hK4; clear K4)
        refine TWp.ret ⟨.inr rfl, [_, _, _], ⟨rfl, rfl, rfl, trivial⟩, ?_⟩
        exact ⟨(split_no (by first | exact .inl (by omega) | exact .inr (.inl (by omega)) | exact .inr (.inr (.inl (by simpa using hb))))).symm, Keep.refl _⟩
    · try (replace hb := of_decide_eq_false hb)
      try (exact absurd hb (by decide))
      all_goals
        refine TWp.skip ?_
        refine hK1 _ _ ?_; try (clear hK1; clear K1)
        refine TWp.sr fun K5 hK5 => ?_
        simp -implicitDefEqProofs (disch := omega) only [seval, go_sem]
        repeat (with_reducible refine ⟨by first | omega | exact Keep.push _ _ | exact KpL.push _ _, ?_⟩)
        refine c_godownref03_Bytes ?_ ((dec3_whole (by rw [List.length_take]; omega)).trans (if_pos hok)) (by rw [List.length_take]; omega)
        simp -implicitDefEqProofs (disch := omega) only [seval, go_sem]
        repeat (with_reducible refine ⟨by first | omega | exact Keep.push _ _ | exact KpL.push _ _, ?_⟩)
        refine hK5 _ _ ?_; try (clear hK5; clear K5)
        refine TWp.seq_k fun K6 hK6 => ?_
        refine TWp.sr fun K7 hK7 => ?_
        simp -implicitDefEqProofs (disch := omega) only [seval, go_sem]
        repeat (with_reducible refine ⟨by first | omega | exact Keep.push _ _ | exact KpL.push _ _, ?_⟩)
        refine hK7 _ _ ?_; try (clear hK7; clear K7)
        refine TWp.cond_k fun K8 hK8 => ?_
        simp -implicitDefEqProofs (disch := omega) only [seval, go_sem]
        refine hK8 _ (fun hb => ?_) (fun hb => ?_) <;> clear hK8 <;> clear K8
        · try (replace hb := of_decide_eq_true hb)
          try (exact absurd hb (by decide))
          all_goals
            refine TWp.sr fun K9 hK9 => ?_
            simp -implicitDefEqProofs (disch := omega) only [seval, go_sem]
            repeat (with_reducible refine ⟨by first | omega | exact Keep.push _ _ | exact KpL.push _ _, ?_⟩)
            refine hK9 _ _ ?_; try (clear hK9; clear K9)
            refine TWp.ret ⟨.inr rfl, [_, _, _], ⟨rfl, rfl, rfl, trivial⟩, ?_⟩
            skip
        · try (replace hb := of_decide_eq_false hb)
          try (exact absurd hb (by decide))
          all_goals
            refine TWp.skip ?_
            refine hK6 _ _ ?_; try (clear hK6; clear K6)
            refine TWp.sd [(0, 0), (1, 0), (2, 0), (3, 0), (4, 0), (5, 0), (6, 0)] followsN (by kernel_rfl) fun K10 hK10 => ?_
            simp -implicitDefEqProofs (disch := omega) only [seval, go_sem]
            repeat (with_reducible refine ⟨by first | omega | exact Keep.push _ _ | exact KpL.push _ _, ?_⟩)
            refine hK10 _ _ ?_; try (clear hK10; clear K10)
            refine TWp.ret ⟨.inr rfl, [_, _, _], ⟨rfl, rfl, rfl, trivial⟩, ?_⟩
            exact ⟨(split_yes (by omega) (by omega) (by simpa using ‹(!rightS (s.drop 33)) = false›) hok).symm, Keep.push _ _⟩
set_option maxRecDepth 8000 in
set_option maxHeartbeats 1000000 in
theorem c_godownref07_Split_false (S : TS) (s : Bs) (hs : s.length ≤ 100000) (hok : okB (s.take 32) = false) : TCall env 105 [.lit (.string (st s))] S fun r S' => r = splitV s ∧ Keep S S' := by
  refine TCall.of 33 [.tmp 2, .tmp 3, .tmp 4] Tryz.func105 rfl rfl rfl rfl (by kernel_rfl) rfl ?_
  refine TWp.sr fun K0 hK0 => ?_
  simp -implicitDefEqProofs (disch := omega) only [seval, go_sem]
  repeat (with_reducible refine ⟨by first | omega | exact Keep.push _ _ | exact KpL.push _ _, ?_⟩)
  refine hK0 _ _ ?_; try (clear hK0; clear K0)
  refine TWp.seq_k fun K1 hK1 => ?_
  refine TWp.sr fun K2 hK2 => ?_
  simp -implicitDefEqProofs (disch := omega) only [seval, go_sem]
  repeat' (first | with_reducible refine ⟨by first | omega | exact Keep.push _ _ | exact KpL.push _ _, ?_⟩ | (refine brT_split (fun hb => ?_) (fun hb => ?_) <;> (have hb' := hb; try simp only [decide_eq_true_eq, decide_eq_false_iff_not] at hb') <;> simp -implicitDefEqProofs (disch := omega) only [seval, go_sem, hb]))
  all_goals try (refine c_godownref07_Right ?_; simp -implicitDefEqProofs (disch := omega) only [seval, go_sem])
  all_goals repeat' (first | with_reducible refine ⟨by first | omega | exact Keep.push _ _ | exact KpL.push _ _, ?_⟩ | (refine brT_split (fun hb => ?_) (fun hb => ?_) <;> (have hb' := hb; try simp only [decide_eq_true_eq, decide_eq_false_iff_not] at hb') <;> simp -implicitDefEqProofs (disch := omega) only [seval, go_sem, hb]))
  all_goals
    refine hK2 _ _ ?_; try (clear hK2; clear K2)
    refine TWp.cond_k fun K3 hK3 => ?_
    simp -implicitDefEqProofs (disch := omega) only [seval, go_sem]
    refine hK3 _ (fun hb => ?_) (fun hb => ?_) <;> clear hK3 <;> clear K3
    · try (replace hb := of_decide_eq_true hb)
      try (exact absurd hb (by decide))
      all_goals
        refine TWp.sr fun K4 hK4 => ?_
        simp -implicitDefEqProofs (disch := omega) only [seval, go_sem]
        repeat (with_reducible refine ⟨by first | omega | exact Keep.push _ _ | exact KpL.push _ _, ?_⟩)
        refine hK4 _ _ ?_; try (clear hK4; clear K4)
        refine TWp.ret ⟨.inr rfl, [_, _, _], ⟨rfl, rfl, rfl, trivial⟩, ?_⟩
        exact ⟨(split_no (by first | exact .inl (by omega) | exact .inr (.inl (by omega)) | exact .inr (.inr (.inl (by simpa using hb))))).symm, Keep.refl _⟩
    · try (replace hb := of_decide_eq_false hb)
      try (exact absurd hb (by decide))
      all_goals
        refine TWp.skip ?_
        refine hK1 _ _ ?_; try (clear hK1; clear K1)
        refine TWp.sr fun K5 hK5 => ?_
        simp -implicitDefEqProofs (disch := omega) only [seval, go_sem]
        repeat (with_reducible refine ⟨by first | omega | exact Keep.push _ _ | exact KpL.push _ _, ?_⟩)
        refine c_godownref03_Bytes_no ?_ ((dec3_whole (by rw [List.length_take]; omega)).trans (if_neg (by rw [hok]; simp))) (by rw [List.length_take]; omega)
        simp -implicitDefEqProofs (disch := omega) only [seval, go_sem]
        repeat (with_reducible refine ⟨by first | omega | exact Keep.push _ _ | exact KpL.push _ _, ?_⟩)
        refine hK5 _ _ ?_; try (clear hK5; clear K5)
        refine TWp.seq_k fun K6 hK6 => ?_
        refine TWp.sr fun K7 hK7 => ?_
        simp -implicitDefEqProofs (disch := omega) only [seval, go_sem]
        repeat (with_reducible refine ⟨by first | omega | exact Keep.push _ _ | exact KpL.push _ _, ?_⟩)
        refine hK7 _ _ ?_; try (clear hK7; clear K7)
        refine TWp.cond_k fun K8 hK8 => ?_
        simp -implicitDefEqProofs (disch := omega) only [seval, go_sem]
        refine hK8 _ (fun hb => ?_) (fun hb => ?_) <;> clear hK8 <;> clear K8
        · try (replace hb := of_decide_eq_true hb)
          try (exact absurd hb (by decide))
          all_goals
            refine TWp.sr fun K9 hK9 => ?_
            simp -implicitDefEqProofs (disch := omega) only [seval, go_sem]
            repeat (with_reducible refine ⟨by first | omega | exact Keep.push _ _ | exact KpL.push _ _, ?_⟩)
            refine hK9 _ _ ?_; try (clear hK9; clear K9)
            refine TWp.ret ⟨.inr rfl, [_, _, _], ⟨rfl, rfl, rfl, trivial⟩, ?_⟩
            exact ⟨(split_no (.inr (.inr (.inr hok)))).symm, Keep.refl _⟩
        · try (replace hb := of_decide_eq_false hb)
          try (exact absurd hb (by decide))
          all_goals
            refine TWp.skip ?_
            refine hK6 _ _ ?_; try (clear hK6; clear K6)
            refine TWp.sd [(0, 0), (1, 0), (2, 0), (3, 0), (4, 0), (5, 0), (6, 0)] followsN (by kernel_rfl) fun K10 hK10 => ?_
            simp -implicitDefEqProofs (disch := omega) only [seval, go_sem]
            repeat (with_reducible refine ⟨by first | omega | exact Keep.push _ _ | exact KpL.push _ _, ?_⟩)
            refine hK10 _ _ ?_; try (clear hK10; clear K10)
            refine TWp.ret ⟨.inr rfl, [_, _, _], ⟨rfl, rfl, rfl, trivial⟩, ?_⟩
            skip
theorem ren_splitV (n : Nat) (s : Bs) : Ren n [] (splitV s) (splitV s) := by
  unfold splitV
  split
  · exact .tupF (.cons (.lit _) (.cons (.lit _) (.cons (.lit _) .nil)))
  · exact .tupF (.cons (.lit _) (.cons (.lit _) (.cons (.lit _) .nil)))
theorem c_godownref07_Split {S : TS} {s : Bs} {K : TV → TS → Prop} (hK : K (splitV s) S) (hs : s.length ≤ 100000 := by omega) : TCall env 105 [.lit (.string (st s))] S K := by
  refine (TCall.pure (r := splitV s) ?_ (ren_splitV _ _)).mono fun t S' ⟨h1, h2⟩ => by rw [h1, h2]; exact hK
  cases hok : okB (s.take 32)
  · exact c_godownref07_Split_false S s hs hok
  · exact c_godownref07_Split_true S s hs hok
def splitA (s : Bs) : Bs := match splitS s with | some (a, _) => a | none => []
def splitB (s : Bs) : Bs := match splitS s with | some (_, b) => b | none => []
def isP (s : Bs) : Bool := (splitS s).isSome
theorem splitV_eq (s : Bs) : splitV s = .tup [.lit (.string (st (splitA s))), .lit (.string (st (splitB s))), .lit (.bool (isP s))] := by
  unfold splitV splitA splitB isP
  rcases splitS s with _ | ⟨a, b⟩ <;> rfl
set_option maxRecDepth 8000 in
set_option maxHeartbeats 1000000 in
theorem c_godownref07_Is_ok (S : TS) (s : Bs) (hs : s.length ≤ 100000) : TCall env 48 [.lit (.string (st s))] S fun r S' => r = .lit (.bool (isP s)) ∧ S' = S := by
  refine TCall.of 13 [.tmp 2] Tryz.func48 rfl rfl rfl rfl (by kernel_rfl) rfl ?_
  refine TWp.sr fun K0 hK0 => ?_
  simp -implicitDefEqProofs (disch := omega) only [seval, go_sem]
  repeat (with_reducible refine ⟨by first | omega | exact Keep.push _ _ | exact KpL.push _ _, ?_⟩)
  refine hK0 _ _ ?_; try (clear hK0; clear K0)
  refine TWp.sr fun K1 hK1 => ?_
  simp -implicitDefEqProofs (disch := omega) only [seval, go_sem]
  repeat (with_reducible refine ⟨by first | omega | exact Keep.push _ _ | exact KpL.push _ _, ?_⟩)
  refine c_godownref07_Split ?_
  rw [splitV_eq]
  simp -implicitDefEqProofs (disch := omega) only [seval, go_sem]
  repeat (with_reducible refine ⟨by first | omega | exact Keep.push _ _ | exact KpL.push _ _, ?_⟩)
  refine hK1 _ _ ?_; try (clear hK1; clear K1)
  refine TWp.sr fun K2 hK2 => ?_
  simp -implicitDefEqProofs (disch := omega) only [seval, go_sem]
  repeat (with_reducible refine ⟨by first | omega | exact Keep.push _ _ | exact KpL.push _ _, ?_⟩)
  refine hK2 _ _ ?_; try (clear hK2; clear K2)
  refine TWp.ret ⟨.inr rfl, [_], ⟨rfl, trivial⟩, ?_⟩
  exact ⟨rfl, rfl⟩
theorem c_godownref07_Is {S : TS} {s : Bs} {K : TV → TS → Prop} (hK : K (.lit (.bool (isP s))) S) (hs : s.length ≤ 100000 := by omega) : TCall env 48 [.lit (.string (st s))] S K :=
  (c_godownref07_Is_ok S s hs).mono fun t S' ⟨h1, h2⟩ => by rw [h1, h2]; exact hK
end Go.Proofs.YtlljknmojafkoaaGreatDoor
namespace Go.Proofs.YtlljknmojafkoaaGreatDoor
open Go.RowKit TL
theorem c_abi_NoEscape {S : TS} {t : TV} {K : TV → TS → Prop} (hK : K t S) : TCall env 267 [t] S K := by
  refine TCall.of_extern (e := Extern.AbiNoEscape.same) Tryz.func267 rfl rfl (by kernel_rfl) (by kernel_rfl) fun w0 c0 w vs hk hv => ?_
  have h0 : vs.size = 1 := hv.size
  have hlt : 0 < vs.size := by omega
  have e : vs = #[vs[0]] := by
    apply Array.ext
    · simpa using h0
    · intro i h1 h2
      have : i = 0 := by omega
      subst this
      rfl
  rw [e]
  exact ⟨vs[0], w, rfl, t, c0, S, hk, Mono.refl _ _, hv.rd 0 _ _ rfl (Array.getElem?_eq_getElem hlt), hK⟩
end Go.Proofs.YtlljknmojafkoaaGreatDoor
