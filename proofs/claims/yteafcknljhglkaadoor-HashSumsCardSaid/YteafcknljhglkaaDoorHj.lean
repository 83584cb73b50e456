/-
  What the statements' functions do: each answers true.
-/
import Derived.Test.YteafcknljhglkaaDoorHi
set_option linter.unusedVariables false
set_option linter.unusedSimpArgs false
namespace Go.Proofs.YteafcknljhglkaaDoor
open Go.RowKit TL

theorem c_hash_Sum_nil {S : TS} {K : TV → TS → Prop} (hK : K (.sl (.own S.n) 1 (dB (sha []))) (S.push .lin)) : TCall env 10 [.sl .full 0 []] S K :=
  .argL (.empty .nil) (c_hash_Sum (g := .full) (p := []) hK (by simp))
theorem c_New {S : TS} {K : TV → TS → Prop} (hK : K (.agg [.sl .none 1 (gD fW), .sl .none 1 (gD kW)]) S) : TCall env 12 [] S K :=
  c_godownref02_New (by rw [tabH_eq, tabK_eq]; exact hK)

set_option maxRecDepth 8000 in
set_option maxHeartbeats 1000000 in
theorem c_godownlaw02_bare_ok (S : TS) : TCall env 8 [] S fun r S' => r = .lit (.bool true) ∧ Keep S S' := by
  have b0 : (sha []).getD 0 0#8 = 0xe3#8 := by rw [sha_bare]; rfl
  have b1 : (sha []).getD 1 0#8 = 0xb0#8 := by rw [sha_bare]; rfl
  have b2 : (sha []).getD 2 0#8 = 0xc4#8 := by rw [sha_bare]; rfl
  have b3 : (sha []).getD 3 0#8 = 0x42#8 := by rw [sha_bare]; rfl
  have bl := sha_len []
  refine TCall.of 30 [.tmp 0] Tryd.func8 rfl rfl rfl rfl (by kernel_rfl) rfl ?_
  refine TWp.sr fun K0 hK0 => ?_
  simp -implicitDefEqProofs (disch := omega) only [seval, go_sem, b0, b1, b2, b3, bl]
  repeat (refine ⟨by first | omega | exact Keep.push _ _, ?_⟩)
  refine hK0 _ _ ?_; try (clear hK0; clear K0)
  refine TWp.sr fun K1 hK1 => ?_
  simp -implicitDefEqProofs (disch := omega) only [seval, go_sem, b0, b1, b2, b3, bl]
  repeat (refine ⟨by first | omega | exact Keep.push _ _, ?_⟩)
  refine c_hash_Sum_nil ?_
  simp -implicitDefEqProofs (disch := omega) only [seval, go_sem, b0, b1, b2, b3, bl]
  repeat (refine ⟨by first | omega | exact Keep.push _ _, ?_⟩)
  refine hK1 _ _ ?_; try (clear hK1; clear K1)
  refine TWp.sr fun K2 hK2 => ?_
  simp -implicitDefEqProofs (disch := omega) only [seval, go_sem, b0, b1, b2, b3, bl]
  repeat' (first | refine ⟨by first | omega | exact Keep.push _ _, ?_⟩ | (refine brT_split (fun hb => ?_) (fun hb => ?_) <;> simp -implicitDefEqProofs (disch := omega) only [seval, go_sem, hb, b0, b1, b2, b3, bl]))
  all_goals
    refine hK2 _ _ ?_; try (clear hK2; clear K2)
    refine TWp.ret ⟨.inr rfl, [_], ⟨rfl, trivial⟩, ?_⟩
    exact ⟨rfl, Keep.push _ _⟩

theorem c_godownlaw02_bare {S : TS} {K : TV → TS → Prop} (hK : K (.lit (.bool true)) S) : TCall env 8 [] S K :=
  (TCall.pure (c_godownlaw02_bare_ok S) (.lit _)).mono fun t S' ⟨h1, h2⟩ => by rw [h1, h2]; exact hK

set_option maxRecDepth 8000 in
set_option maxHeartbeats 1000000 in
theorem c_HashSums (S : TS) (g : Tag) (p : List (BitVec 8)) : TCall env 5 [.sl g 1 (dB p)] S fun r S' => r = .lit (.bool true) := by
  have hl := fold20_len (sha p)
  have hl2 := sha_len p
  refine TCall.of 27 [.tmp 2] Tryd.func5 rfl rfl rfl rfl (by kernel_rfl) rfl ?_
  refine TWp.sr fun K0 hK0 => ?_
  simp -implicitDefEqProofs (disch := omega) only [seval, go_sem]
  repeat (refine ⟨by first | omega | exact Keep.push _ _, ?_⟩)
  refine hK0 _ _ ?_; try (clear hK0; clear K0)
  refine TWp.seq_k fun K1 hK1 => ?_
  refine TWp.sr fun K2 hK2 => ?_
  simp -implicitDefEqProofs (disch := omega) only [seval, go_sem]
  repeat (refine ⟨by first | omega | exact Keep.push _ _, ?_⟩)
  refine c_godownlaw02_bare ?_
  simp -implicitDefEqProofs (disch := omega) only [seval, go_sem]
  repeat' (first | refine ⟨by first | omega | exact Keep.push _ _, ?_⟩ | (refine brT_split (fun hb => ?_) (fun hb => ?_) <;> simp -implicitDefEqProofs (disch := omega) only [seval, go_sem, hb]))
  all_goals
    refine hK2 _ _ ?_; try (clear hK2; clear K2)
    refine TWp.cond_k fun K3 hK3 => ?_
    simp -implicitDefEqProofs (disch := omega) only [seval, go_sem]
    refine hK3 _ (fun hb => ?_) (fun hb => ?_) <;> clear hK3 <;> clear K3
    · try (replace hb := of_decide_eq_true hb)
      try (exact absurd hb (by decide))
      all_goals
        refine TWp.sr fun K4 hK4 => ?_
        simp -implicitDefEqProofs (disch := omega) only [seval, go_sem]
        repeat (refine ⟨by first | omega | exact Keep.push _ _, ?_⟩)
        refine c_godownlaw02_bare ?_
        simp -implicitDefEqProofs (disch := omega) only [seval, go_sem]
        repeat (refine ⟨by first | omega | exact Keep.push _ _, ?_⟩)
        refine hK4 _ _ ?_; try (clear hK4; clear K4)
        refine TWp.ret ⟨.inr rfl, [_], ⟨rfl, trivial⟩, ?_⟩
        rfl
    · try (replace hb := of_decide_eq_false hb)
      try (exact absurd hb (by decide))
      all_goals
        refine TWp.skip ?_
        refine hK1 _ _ ?_; try (clear hK1; clear K1)
        refine TWp.sr fun K5 hK5 => ?_
        simp -implicitDefEqProofs (disch := omega) only [seval, go_sem]
        repeat (refine ⟨by first | omega | exact Keep.push _ _, ?_⟩)
        refine c_New ?_
        simp -implicitDefEqProofs (disch := omega) only [seval, go_sem]
        repeat (refine ⟨by first | omega | exact Keep.push _ _, ?_⟩)
        refine hK5 _ _ ?_; try (clear hK5; clear K5)
        refine TWp.sd [(0, 0), (2, 0), (3, 0), (1, 1), (4, 2), (5, 2), (6, 0), (7, 0), (9, 0), (10, 0), (8, 1), (11, 2), (12, 2), (13, 0), (14, 0)] follows (by kernel_rfl) fun K6 hK6 => ?_
        simp -implicitDefEqProofs (disch := omega) only [seval, go_sem]
        repeat (refine ⟨by first | omega | exact Keep.push _ _, ?_⟩)
        refine c_hash_Sum ?_
        simp -implicitDefEqProofs (disch := omega) only [seval, go_sem]
        repeat (refine ⟨by first | omega | exact Keep.push _ _, ?_⟩)
        refine c_godownref02_Sum ?_
        simp -implicitDefEqProofs (disch := omega) only [seval, go_sem]
        repeat (refine ⟨by first | omega | exact Keep.push _ _, ?_⟩)
        refine c_godownref01_Bytes ?_
        simp -implicitDefEqProofs (disch := omega) only [seval, go_sem]
        repeat (refine ⟨by first | omega | exact Keep.push _ _, ?_⟩)
        refine c_hash_Short ?_
        simp -implicitDefEqProofs (disch := omega) only [seval, go_sem]
        repeat (refine ⟨by first | omega | exact Keep.push _ _, ?_⟩)
        refine c_godownref02_Short ?_
        simp -implicitDefEqProofs (disch := omega) only [seval, go_sem]
        repeat (refine ⟨by first | omega | exact Keep.push _ _, ?_⟩)
        refine c_godownref01_Bytes ?_
        simp -implicitDefEqProofs (disch := omega) only [seval, go_sem]
        repeat' (first | refine ⟨by first | omega | exact Keep.push _ _, ?_⟩ | (refine brT_split (fun hb => ?_) (fun hb => ?_) <;> simp -implicitDefEqProofs (disch := omega) only [seval, go_sem, hb]))
        all_goals
          refine hK6 _ _ ?_; try (clear hK6; clear K6)
          refine TWp.ret ⟨.inr rfl, [_], ⟨rfl, trivial⟩, ?_⟩
          rfl

end Go.Proofs.YteafcknljhglkaaDoor
