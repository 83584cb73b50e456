/-
  What the reference's functions do: New.
-/
import Derived.Test.YteafcknljhglkaaDoorHg
set_option linter.unusedVariables false
set_option linter.unusedSimpArgs false
namespace Go.Proofs.YteafcknljhglkaaDoor
open Go.RowKit TL

theorem c_godownref02_Tables {S : TS} {K : TV → TS → Prop} (hK : K (.tup [.sl .none 1 (gD tabH), .sl .none 1 (gD tabK)]) S) : TCall env 19 [] S K :=
  (c_godownref02_Tables_ok S).forget fun t S1 hw ⟨t1, t2, h1, _, _, _, _, _, hk⟩ => ⟨[], _, S, .none hw hk, by rw [h1]; exact .tupF (.cons (.slN ..) (.cons (.slN ..) .nil)), hK⟩

set_option maxRecDepth 8000 in
theorem c_godownref02_New_ok (S : TS) : TCall env 12 [] S fun r S' => r = .agg [.sl .none 1 (gD tabH), .sl .none 1 (gD tabK)] ∧ Keep S S' := by
  refine TCall.of 10 [.cell 0 30] Tryd.func12 rfl rfl rfl rfl (by kernel_rfl) rfl ?_
  refine TWp.sr fun K0 hK0 => ?_
  simp (disch := omega) only [seval, go_sem]
  repeat (refine ⟨by omega, ?_⟩)
  refine hK0 _ _ ?_; try (clear hK0; clear K0)
  refine TWp.sr fun K1 hK1 => ?_
  simp (disch := omega) only [seval, go_sem]
  repeat (refine ⟨by omega, ?_⟩)
  refine c_godownref02_Tables ?_
  simp (disch := omega) only [seval, go_sem]
  repeat (refine ⟨by omega, ?_⟩)
  refine hK1 _ _ ?_; try (clear hK1; clear K1)
  refine TWp.sr fun K2 hK2 => ?_
  simp (disch := omega) only [seval, go_sem]
  repeat (refine ⟨by omega, ?_⟩)
  refine hK2 _ _ ?_; try (clear hK2; clear K2)
  exact TWp.ret ⟨.inr rfl, [.agg [.sl .none 1 (gD tabH), .sl .none 1 (gD tabK)]], ⟨resCell (id := S.n) rfl ti30 (push_self _ _) rfl rfl, trivial⟩, rfl, Keep.push S _⟩

theorem c_godownref02_New {S : TS} {K : TV → TS → Prop} (hK : K (.agg [.sl .none 1 (gD tabH), .sl .none 1 (gD tabK)]) S) : TCall env 12 [] S K :=
  (TCall.pure (c_godownref02_New_ok S) (.aggF (.cons (.slN ..) (.cons (.slN ..) .nil)))).mono fun t S' ⟨h1, h2⟩ => by rw [h1, h2]; exact hK

end Go.Proofs.YteafcknljhglkaaDoor
