/-
  What the rows of the Hash statements lay: the two tables.
-/
import Derived.Test.YteafcknljhglkaaDoorTie
import Derived.Test.YteafcknljhglkaaDoorCards
import Derived.Test.YteafcknljhglkaaDoorHj
import Derived.Test.YteafcknljhglkaaDoorTlW
set_option linter.unusedVariables false
set_option linter.unusedSimpArgs false
namespace Go.Proofs.YteafcknljhglkaaDoor
open Go.RowKit TL Go.ChangeShapes Go.WideShapes Go.ChangeAt
theorem own : ownKnob Tryd.prog.godebug = none := by kernel_rfl
theorem laidOut : laidOutB Tryd.prog = true := by kernel_rfl
theorem gFirst : Tryd.prog.globalNamed "godown/hash.first" = some 0 := by kernel_rfl
theorem gKeys : Tryd.prog.globalNamed "godown/hash.keys" = some 1 := by kernel_rfl
theorem tFirst : (Tryd.prog.globals[0]?).map (·.type) = some 37 := by kernel_rfl
theorem tKeys : (Tryd.prog.globals[1]?).map (·.type) = some 44 := by kernel_rfl
def laidL : List (String × DataW Unit) := [("godown/hash.first", Rows.laid_godown_hash_first), ("godown/hash.keys", Rows.laid_godown_hash_keys)]
theorem door_met (os : Os) (args : Array Value) : laidMetH Tryd.prog laidL ((World.doorLaid Tryd.prog 4000 os).forCall (fun _ _ => 0) ⟨#[], args, []⟩).memory :=
  laidMetH_of_parts3 (fuel := 8) (laidMet_of_run' 8 (by kernel_rfl) (by kernel_rfl)) (by kernel_rfl) (by kernel_rfl)
theorem datF : (Rows.laid_godown_hash_first : DataW Unit) = .agg ((firsts.map Int.ofNat).map fun z => .lit (.int .u32 z)) := rfl
theorem datK : (Rows.laid_godown_hash_keys : DataW Unit) = .agg ((keys.map Int.ofNat).map fun z => .lit (.int .u32 z)) := rfl
theorem gdF : ((firsts.map Int.ofNat).map fun z => D.lit (.int .u32 z)) = gD fW := by kernel_rfl
theorem gdK : ((keys.map Int.ofNat).map fun z => D.lit (.int .u32 z)) = gD kW := by kernel_rfl
theorem glob_of {W : World} (h : laidMetH Tryd.prog laidL W) : ∀ g, RdT (cx0 W) W (env.G g) (.pointer (some ⟨g, 0, none⟩)) := by
  rw [MakeChecks.laidMetH_plain _ _ _ (by kernel_rfl)] at h
  obtain ⟨ps, ⟨g0, t0, cs0, f0, p0, q0, hg0, ht0, hv0, hd0, ⟨g1, t1, cs1, f1, p1, q1, hg1, ht1, hv1, hd1, _, _⟩, _⟩, _, _⟩ := h
  obtain rfl := Option.some.inj (gFirst.symm.trans hg0)
  obtain rfl := Option.some.inj (gKeys.symm.trans hg1)
  obtain rfl := Option.some.inj (tFirst.symm.trans ht0)
  obtain rfl := Option.some.inj (tKeys.symm.trans ht1)
  rw [datF] at hd0
  rw [datK] at hd1
  intro g
  match g with
  | 0 =>
    have := laid_ints Tryd.underlying37 Tryd.underlying36 (by kernel_rfl) gFirst hv0 hd0
    rw [gdF] at this
    exact this
  | 1 =>
    have := laid_ints Tryd.underlying44 Tryd.underlying36 (by kernel_rfl) gKeys hv1 hd1
    rw [gdK] at this
    exact this
  | g + 2 => exact .unk _
end Go.Proofs.YteafcknljhglkaaDoor
