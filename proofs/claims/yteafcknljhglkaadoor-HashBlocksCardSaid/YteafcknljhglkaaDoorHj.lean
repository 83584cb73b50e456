/-
  What the statements' functions do: each answers true.
-/
import Derived.Test.YteafcknljhglkaaDoorHi
set_option linter.unusedVariables false
set_option linter.unusedSimpArgs false
namespace Go.Proofs.YteafcknljhglkaaDoor
open Go.RowKit TL

theorem fold_lo (s : List (BitVec 8)) (i : Nat) (h : i + 20 < 32) : (fold20 s).getD i 0#8 = s.getD i 0#8 ^^^ s.getD (i + 20) 0#8 := by
  have e := fbs_get s 20 i (by omega)
  rw [fb, if_pos h, ← fold20_fbs] at e
  exact e
theorem fold_hi (s : List (BitVec 8)) (i : Nat) (h : ¬ i + 20 < 32) (h2 : i < 20) : (fold20 s).getD i 0#8 = s.getD i 0#8 := by
  have e := fbs_get s 20 i (by omega)
  rw [fb, if_neg h, ← fold20_fbs] at e
  exact e
theorem c_hash_Sum_nil {S : TS} {K : TV → TS → Prop} (hK : K (.sl (.own S.n) 1 (dB (sha []))) (S.push .lin)) : TCall env 10 [.sl .full 0 []] S K :=
  .argL (.empty .nil) (c_hash_Sum (g := .full) (p := []) hK (by simp))
theorem c_New {S : TS} {K : TV → TS → Prop} (hK : K (.agg [.sl .none 1 (gD fW), .sl .none 1 (gD kW)]) S) : TCall env 12 [] S K :=
  c_godownref02_New (by rw [tabH_eq, tabK_eq]; exact hK)

set_option maxRecDepth 8000 in
set_option maxHeartbeats 1000000 in
theorem c_godownlaw02_bare_ok (S : TS) : TCall env 8 [] S fun r S' => r = .lit (.bool true) ∧ Keep S S' := by
  have b0 : (sha []).getD 0 0#8 = 0xe3#8 := by rw [sha_bare]; rfl
  have b1 : (sha []).getD 1 0#8 = 0xb0#8 := by rw [sha_bare]; rfl
  have b2 : (sha []).getD 2 0#8 = 0xc4#8 := by rw [sha_bare]; rfl
  have b3 : (sha []).getD 3 0#8 = 0x42#8 := by rw [sha_bare]; rfl
  have bl := sha_len []
  refine TCall.of 30 [.tmp 0] Tryd.func8 rfl rfl rfl rfl (by kernel_rfl) rfl ?_
  refine TWp.sr fun K0 hK0 => ?_
  simp -implicitDefEqProofs (disch := omega) only [seval, go_sem, b0, b1, b2, b3, bl]
  repeat (with_reducible refine ⟨by first | omega | exact Keep.push _ _, ?_⟩)
  refine hK0 _ _ ?_; try (clear hK0; clear K0)
  refine TWp.sr fun K1 hK1 => ?_
  simp -implicitDefEqProofs (disch := omega) only [seval, go_sem, b0, b1, b2, b3, bl]
  repeat (with_reducible refine ⟨by first | omega | exact Keep.push _ _, ?_⟩)
  refine c_hash_Sum_nil ?_
  simp -implicitDefEqProofs (disch := omega) only [seval, go_sem, b0, b1, b2, b3, bl]
  repeat (with_reducible refine ⟨by first | omega | exact Keep.push _ _, ?_⟩)
  refine hK1 _ _ ?_; try (clear hK1; clear K1)
  refine TWp.sr fun K2 hK2 => ?_
  simp -implicitDefEqProofs (disch := omega) only [seval, go_sem, b0, b1, b2, b3, bl]
  repeat' (first | with_reducible refine ⟨by first | omega | exact Keep.push _ _, ?_⟩ | (refine brT_split (fun hb => ?_) (fun hb => ?_) <;> simp -implicitDefEqProofs (disch := omega) only [seval, go_sem, hb, b0, b1, b2, b3, bl]))
  all_goals
    refine hK2 _ _ ?_; try (clear hK2; clear K2)
    refine TWp.ret ⟨.inr rfl, [_], ⟨rfl, trivial⟩, ?_⟩
    exact ⟨rfl, Keep.push _ _⟩

theorem c_godownlaw02_bare {S : TS} {K : TV → TS → Prop} (hK : K (.lit (.bool true)) S) : TCall env 8 [] S K :=
  (TCall.pure (c_godownlaw02_bare_ok S) (.lit _)).mono fun t S' ⟨h1, h2⟩ => by rw [h1, h2]; exact hK

set_option maxRecDepth 8000 in
set_option maxHeartbeats 1000000 in
theorem c_HashSums (S : TS) (g : Tag) (p : List (BitVec 8)) : TCall env 5 [.sl g 1 (dB p)] S fun r S' => r = .lit (.bool true) := by
  have hl := fold20_len (sha p)
  have hl2 := sha_len p
  refine TCall.of 27 [.tmp 2] Tryd.func5 rfl rfl rfl rfl (by kernel_rfl) rfl ?_
  refine TWp.sr fun K0 hK0 => ?_
  simp -implicitDefEqProofs (disch := omega) only [seval, go_sem]
  repeat (with_reducible refine ⟨by first | omega | exact Keep.push _ _, ?_⟩)
  refine hK0 _ _ ?_; try (clear hK0; clear K0)
  refine TWp.seq_k fun K1 hK1 => ?_
  refine TWp.sr fun K2 hK2 => ?_
  simp -implicitDefEqProofs (disch := omega) only [seval, go_sem]
  repeat (with_reducible refine ⟨by first | omega | exact Keep.push _ _, ?_⟩)
  refine c_godownlaw02_bare ?_
  simp -implicitDefEqProofs (disch := omega) only [seval, go_sem]
  repeat' (first | with_reducible refine ⟨by first | omega | exact Keep.push _ _, ?_⟩ | (refine brT_split (fun hb => ?_) (fun hb => ?_) <;> simp -implicitDefEqProofs (disch := omega) only [seval, go_sem, hb]))
  all_goals
    refine hK2 _ _ ?_; try (clear hK2; clear K2)
    refine TWp.cond_k fun K3 hK3 => ?_
    simp -implicitDefEqProofs (disch := omega) only [seval, go_sem]
    refine hK3 _ (fun hb => ?_) (fun hb => ?_) <;> clear hK3 <;> clear K3
    · try (replace hb := of_decide_eq_true hb)
      try (exact absurd hb (by decide))
      all_goals
        refine TWp.sr fun K4 hK4 => ?_
        simp -implicitDefEqProofs (disch := omega) only [seval, go_sem]
        repeat (with_reducible refine ⟨by first | omega | exact Keep.push _ _, ?_⟩)
        refine c_godownlaw02_bare ?_
        simp -implicitDefEqProofs (disch := omega) only [seval, go_sem]
        repeat (with_reducible refine ⟨by first | omega | exact Keep.push _ _, ?_⟩)
        refine hK4 _ _ ?_; try (clear hK4; clear K4)
        refine TWp.ret ⟨.inr rfl, [_], ⟨rfl, trivial⟩, ?_⟩
        rfl
    · try (replace hb := of_decide_eq_false hb)
      try (exact absurd hb (by decide))
      all_goals
        refine TWp.skip ?_
        refine hK1 _ _ ?_; try (clear hK1; clear K1)
        refine TWp.sr fun K5 hK5 => ?_
        simp -implicitDefEqProofs (disch := omega) only [seval, go_sem]
        repeat (with_reducible refine ⟨by first | omega | exact Keep.push _ _, ?_⟩)
        refine c_New ?_
        simp -implicitDefEqProofs (disch := omega) only [seval, go_sem]
        repeat (with_reducible refine ⟨by first | omega | exact Keep.push _ _, ?_⟩)
        refine hK5 _ _ ?_; try (clear hK5; clear K5)
        refine TWp.sd [(0, 0), (2, 0), (3, 0), (1, 1), (4, 2), (5, 2), (6, 0), (7, 0), (9, 0), (10, 0), (8, 1), (11, 2), (12, 2), (13, 0), (14, 0)] follows (by kernel_rfl) fun K6 hK6 => ?_
        simp -implicitDefEqProofs (disch := omega) only [seval, go_sem]
        repeat (with_reducible refine ⟨by first | omega | exact Keep.push _ _, ?_⟩)
        refine c_hash_Sum ?_
        simp -implicitDefEqProofs (disch := omega) only [seval, go_sem]
        repeat (with_reducible refine ⟨by first | omega | exact Keep.push _ _, ?_⟩)
        refine c_godownref02_Sum ?_
        simp -implicitDefEqProofs (disch := omega) only [seval, go_sem]
        repeat (with_reducible refine ⟨by first | omega | exact Keep.push _ _, ?_⟩)
        refine c_godownref01_Bytes ?_
        simp -implicitDefEqProofs (disch := omega) only [seval, go_sem]
        repeat (with_reducible refine ⟨by first | omega | exact Keep.push _ _, ?_⟩)
        refine c_hash_Short ?_
        simp -implicitDefEqProofs (disch := omega) only [seval, go_sem]
        repeat (with_reducible refine ⟨by first | omega | exact Keep.push _ _, ?_⟩)
        refine c_godownref02_Short ?_
        simp -implicitDefEqProofs (disch := omega) only [seval, go_sem]
        repeat (with_reducible refine ⟨by first | omega | exact Keep.push _ _, ?_⟩)
        refine c_godownref01_Bytes ?_
        simp -implicitDefEqProofs (disch := omega) only [seval, go_sem]
        repeat' (first | with_reducible refine ⟨by first | omega | exact Keep.push _ _, ?_⟩ | (refine brT_split (fun hb => ?_) (fun hb => ?_) <;> simp -implicitDefEqProofs (disch := omega) only [seval, go_sem, hb]))
        all_goals
          refine hK6 _ _ ?_; try (clear hK6; clear K6)
          refine TWp.ret ⟨.inr rfl, [_], ⟨rfl, trivial⟩, ?_⟩
          rfl
set_option maxRecDepth 8000 in
set_option maxHeartbeats 1000000 in
theorem c_HashBlocks (S : TS) (g : Tag) (p : List (BitVec 8)) (n : BitVec 8) : TCall env 7 [.sl g 1 (dB p), .lit (w8 n)] S fun r S' => r = .lit (.bool true) := by
  have hn : (n % 130#8).toNat < 130 := by rw [BitVec.toNat_umod]; exact Nat.mod_lt _ (by decide)
  have hl2 := sha_len p
  refine TCall.of 45 [.tmp 4] Tryd.func7 rfl rfl rfl rfl (by kernel_rfl) rfl ?_
  refine TWp.sr fun K0 hK0 => ?_
  simp -implicitDefEqProofs (disch := omega) only [seval, go_sem]
  repeat (with_reducible refine ⟨by first | omega | exact Keep.push _ _, ?_⟩)
  refine hK0 _ _ ?_; try (clear hK0; clear K0)
  refine TWp.seq_k fun K1 hK1 => ?_
  refine TWp.sr fun K2 hK2 => ?_
  simp -implicitDefEqProofs (disch := omega) only [seval, go_sem]
  repeat (with_reducible refine ⟨by first | omega | exact Keep.push _ _, ?_⟩)
  refine c_godownlaw02_bare ?_
  simp -implicitDefEqProofs (disch := omega) only [seval, go_sem]
  repeat' (first | with_reducible refine ⟨by first | omega | exact Keep.push _ _, ?_⟩ | (refine brT_split (fun hb => ?_) (fun hb => ?_) <;> simp -implicitDefEqProofs (disch := omega) only [seval, go_sem, hb]))
  all_goals
    refine hK2 _ _ ?_; try (clear hK2; clear K2)
    refine TWp.cond_k fun K3 hK3 => ?_
    simp -implicitDefEqProofs (disch := omega) only [seval, go_sem]
    refine hK3 _ (fun hb => ?_) (fun hb => ?_) <;> clear hK3 <;> clear K3
    · try (replace hb := of_decide_eq_true hb)
      try (exact absurd hb (by decide))
      all_goals
        refine TWp.sr fun K4 hK4 => ?_
        simp -implicitDefEqProofs (disch := omega) only [seval, go_sem]
        repeat (with_reducible refine ⟨by first | omega | exact Keep.push _ _, ?_⟩)
        refine c_godownlaw02_bare ?_
        simp -implicitDefEqProofs (disch := omega) only [seval, go_sem]
        repeat (with_reducible refine ⟨by first | omega | exact Keep.push _ _, ?_⟩)
        refine hK4 _ _ ?_; try (clear hK4; clear K4)
        refine TWp.ret ⟨.inr rfl, [_], ⟨rfl, trivial⟩, ?_⟩
        rfl
    · try (replace hb := of_decide_eq_false hb)
      try (exact absurd hb (by decide))
      all_goals
        refine TWp.skip ?_
        refine hK1 _ _ ?_; try (clear hK1; clear K1)
        refine TWp.sr fun K5 hK5 => ?_
        simp -implicitDefEqProofs (disch := omega) only [seval, go_sem]
        repeat (with_reducible refine ⟨by first | omega | exact Keep.push _ _, ?_⟩)
        refine c_New ?_
        simp -implicitDefEqProofs (disch := omega) only [seval, go_sem]
        repeat (with_reducible refine ⟨by first | omega | exact Keep.push _ _, ?_⟩)
        refine hK5 _ _ ?_; try (clear hK5; clear K5)
        refine TWp.sr fun K6 hK6 => ?_
        simp -implicitDefEqProofs (disch := omega) only [seval, go_sem]
        repeat (with_reducible refine ⟨by first | omega | exact Keep.push _ _, ?_⟩)
        refine c_Join_g (a := p) (b := List.replicate (1 + (n % 130#8).toNat) 0) ?_ ?_ ?_ (by simp; omega)
        rotate_left
        · rfl
        · simp -implicitDefEqProofs (disch := omega) only [seval, go_sem]
          rw [if_pos ⟨by simp, by omega⟩, List.take_of_length_le (by simp)]
        obtain ⟨q, hq⟩ : ∃ q, q = p ++ List.replicate (1 + (n % 130#8).toNat) 0 := ⟨_, rfl⟩
        rw [← hq]
        have hql : q.length ≤ 400 := by rw [hq]; simp; omega
        have hs1 := sha_len q
        have hs2 := fold20_len (sha q)
        simp -implicitDefEqProofs (disch := omega) only [seval, go_sem]
        repeat (with_reducible refine ⟨by first | omega | exact Keep.push _ _, ?_⟩)
        refine hK6 _ _ ?_; try (clear hK6; clear K6)
        refine TWp.sd [(0, 0), (2, 0), (3, 0), (1, 1), (4, 2), (5, 2), (6, 0), (7, 0), (9, 0), (10, 0), (8, 1), (11, 2), (12, 2), (13, 0), (14, 0), (15, 0), (17, 0), (18, 0), (16, 1), (19, 2), (20, 2), (21, 0), (22, 0)] follows (by kernel_rfl) fun K7 hK7 => ?_
        simp -implicitDefEqProofs (disch := omega) only [seval, go_sem]
        repeat (with_reducible refine ⟨by first | omega | exact Keep.push _ _, ?_⟩)
        refine c_hash_Sum ?_
        simp -implicitDefEqProofs (disch := omega) only [seval, go_sem]
        repeat (with_reducible refine ⟨by first | omega | exact Keep.push _ _, ?_⟩)
        refine c_godownref02_Sum ?_
        simp -implicitDefEqProofs (disch := omega) only [seval, go_sem]
        repeat (with_reducible refine ⟨by first | omega | exact Keep.push _ _, ?_⟩)
        refine c_godownref01_Bytes ?_
        simp -implicitDefEqProofs (disch := omega) only [seval, go_sem]
        repeat (with_reducible refine ⟨by first | omega | exact Keep.push _ _, ?_⟩)
        refine c_hash_Short ?_
        simp -implicitDefEqProofs (disch := omega) only [seval, go_sem]
        repeat (with_reducible refine ⟨by first | omega | exact Keep.push _ _, ?_⟩)
        refine c_godownref02_Short ?_
        simp -implicitDefEqProofs (disch := omega) only [seval, go_sem]
        repeat (with_reducible refine ⟨by first | omega | exact Keep.push _ _, ?_⟩)
        refine c_godownref01_Bytes ?_
        simp -implicitDefEqProofs (disch := omega) only [seval, go_sem]
        repeat (with_reducible refine ⟨by first | omega | exact Keep.push _ _, ?_⟩)
        refine c_hash_Sum ?_
        simp -implicitDefEqProofs (disch := omega) only [seval, go_sem]
        repeat (with_reducible refine ⟨by first | omega | exact Keep.push _ _, ?_⟩)
        refine c_godownref02_Sum ?_
        simp -implicitDefEqProofs (disch := omega) only [seval, go_sem]
        repeat (with_reducible refine ⟨by first | omega | exact Keep.push _ _, ?_⟩)
        refine c_godownref01_Bytes ?_
        simp -implicitDefEqProofs (disch := omega) only [seval, go_sem]
        repeat' (first | with_reducible refine ⟨by first | omega | exact Keep.push _ _, ?_⟩ | (refine brT_split (fun hb => ?_) (fun hb => ?_) <;> simp -implicitDefEqProofs (disch := omega) only [seval, go_sem, hb]))
        all_goals
          refine hK7 _ _ ?_; try (clear hK7; clear K7)
          refine TWp.ret ⟨.inr rfl, [_], ⟨rfl, trivial⟩, ?_⟩
          rfl
set_option maxRecDepth 8000 in
set_option maxHeartbeats 1000000 in
theorem c_HashShort (S : TS) (g : Tag) (p : List (BitVec 8)) : TCall env 6 [.sl g 1 (dB p)] S fun r S' => r = .lit (.bool true) := by
  have hl2 := sha_len p
  have hl3 := fold20_len (sha p)
  refine TCall.of 50 [.tmp 2] Tryd.func6 rfl rfl rfl rfl (by kernel_rfl) rfl ?_
  refine TWp.sr fun K0 hK0 => ?_
  simp -implicitDefEqProofs (disch := omega) only [seval, go_sem, hl2, hl3]
  repeat (with_reducible refine ⟨by first | omega | exact Keep.push _ _, ?_⟩)
  refine hK0 _ _ ?_; try (clear hK0; clear K0)
  refine TWp.seq_k fun K1 hK1 => ?_
  refine TWp.sr fun K2 hK2 => ?_
  simp -implicitDefEqProofs (disch := omega) only [seval, go_sem, hl2, hl3]
  repeat (with_reducible refine ⟨by first | omega | exact Keep.push _ _, ?_⟩)
  refine c_godownlaw02_bare ?_
  simp -implicitDefEqProofs (disch := omega) only [seval, go_sem, hl2, hl3]
  repeat' (first | with_reducible refine ⟨by first | omega | exact Keep.push _ _, ?_⟩ | (refine brT_split (fun hb => ?_) (fun hb => ?_) <;> simp -implicitDefEqProofs (disch := omega) only [seval, go_sem, hb, hl2, hl3]))
  all_goals
    refine hK2 _ _ ?_; try (clear hK2; clear K2)
    refine TWp.cond_k fun K3 hK3 => ?_
    simp -implicitDefEqProofs (disch := omega) only [seval, go_sem, hl2, hl3]
    refine hK3 _ (fun hb => ?_) (fun hb => ?_) <;> clear hK3 <;> clear K3
    · try (replace hb := of_decide_eq_true hb)
      try (exact absurd hb (by decide))
      all_goals
        refine TWp.sr fun K4 hK4 => ?_
        simp -implicitDefEqProofs (disch := omega) only [seval, go_sem, hl2, hl3]
        repeat (with_reducible refine ⟨by first | omega | exact Keep.push _ _, ?_⟩)
        refine c_godownlaw02_bare ?_
        simp -implicitDefEqProofs (disch := omega) only [seval, go_sem, hl2, hl3]
        repeat (with_reducible refine ⟨by first | omega | exact Keep.push _ _, ?_⟩)
        refine hK4 _ _ ?_; try (clear hK4; clear K4)
        refine TWp.ret ⟨.inr rfl, [_], ⟨rfl, trivial⟩, ?_⟩
        rfl
    · try (replace hb := of_decide_eq_false hb)
      try (exact absurd hb (by decide))
      all_goals
        refine TWp.skip ?_
        refine hK1 _ _ ?_; try (clear hK1; clear K1)
        refine TWp.sr fun K5 hK5 => ?_
        simp -implicitDefEqProofs (disch := omega) only [seval, go_sem, hl2, hl3]
        repeat (with_reducible refine ⟨by first | omega | exact Keep.push _ _, ?_⟩)
        refine c_hash_Sum ?_
        simp -implicitDefEqProofs (disch := omega) only [seval, go_sem, hl2, hl3]
        repeat (with_reducible refine ⟨by first | omega | exact Keep.push _ _, ?_⟩)
        refine c_hash_Short ?_
        simp -implicitDefEqProofs (disch := omega) only [seval, go_sem, hl2, hl3]
        repeat (with_reducible refine ⟨by first | omega | exact Keep.push _ _, ?_⟩)
        refine hK5 _ _ ?_; try (clear hK5; clear K5)
        refine TWp.seq_k fun K6 hK6 => ?_
        refine TWp.sr fun K7 hK7 => ?_
        simp -implicitDefEqProofs (disch := omega) only [seval, go_sem, hl2, hl3]
        repeat' (first | with_reducible refine ⟨by first | omega | exact Keep.push _ _, ?_⟩ | (refine brT_split (fun hb => ?_) (fun hb => ?_) <;> simp -implicitDefEqProofs (disch := omega) only [seval, go_sem, hb, hl2, hl3]))
        all_goals
          refine hK7 _ _ ?_; try (clear hK7; clear K7)
          refine TWp.cond_k fun K8 hK8 => ?_
          simp -implicitDefEqProofs (disch := omega) only [seval, go_sem, hl2, hl3]
          refine hK8 _ (fun hb => ?_) (fun hb => ?_) <;> clear hK8 <;> clear K8
          · try (replace hb := of_decide_eq_true hb)
            try (exact absurd hb (by decide))
            all_goals
              refine TWp.sr fun K9 hK9 => ?_
              simp -implicitDefEqProofs (disch := omega) only [seval, go_sem, hl2, hl3]
              repeat (with_reducible refine ⟨by first | omega | exact Keep.push _ _, ?_⟩)
              refine hK9 _ _ ?_; try (clear hK9; clear K9)
              refine TWp.ret ⟨.inr rfl, [_], ⟨rfl, trivial⟩, ?_⟩
              rfl
          · try (replace hb := of_decide_eq_false hb)
            try (exact absurd hb (by decide))
            all_goals
              refine TWp.skip ?_
              refine hK6 _ _ ?_; try (clear hK6; clear K6)
              refine TWp.seq_k fun K10 hK10 => ?_
              refine TWp.sr fun K11 hK11 => ?_
              simp -implicitDefEqProofs (disch := omega) only [seval, go_sem, hl2, hl3]
              repeat (with_reducible refine ⟨by first | omega | exact Keep.push _ _, ?_⟩)
              refine hK11 _ _ ?_; try (clear hK11; clear K11)
              refine TWp.block ?_
              refine TWp.loop (fun n T S' => ∃ i gs, n + i = 20 ∧ T 3 = .sl gs 1 (dB (sha p)) ∧ T 4 = .sl .none 1 (dB (fold20 (sha p))) ∧ T 5 = .lit (.int .i64 (i : Int))) (20) ?_ ?_
              · exact ⟨0, _, rfl, rfl, rfl, rfl⟩
              rintro n T S' ⟨i, gs, hi, h3, h4, h5⟩
              refine TWp.seq_k fun K12 hK12 => ?_
              refine TWp.sr fun K13 hK13 => ?_
              simp -implicitDefEqProofs (disch := omega) only [seval, go_sem, h3, h4, h5]
              repeat (with_reducible refine ⟨by first | omega | exact Keep.push _ _, ?_⟩)
              refine hK13 _ _ ?_; try (clear hK13; clear K13)
              refine TWp.cond_k fun K14 hK14 => ?_
              simp -implicitDefEqProofs (disch := omega) only [seval, go_sem, h3, h4, h5]
              refine hK14 _ (fun hb => ?_) (fun hb => ?_) <;> clear hK14 <;> clear K14
              · try (replace hb := of_decide_eq_true hb)
                try (exact absurd hb (by decide))
                all_goals
                  refine TWp.skip ?_
                  refine hK12 _ _ ?_; try (clear hK12; clear K12)
                  refine TWp.seq_k fun K15 hK15 => ?_
                  refine TWp.block ?_
                  refine TWp.sr fun K16 hK16 => ?_
                  simp -implicitDefEqProofs (disch := omega) only [seval, go_sem, h3, h4, h5]
                  repeat (with_reducible refine ⟨by first | omega | exact Keep.push _ _, ?_⟩)
                  refine hK16 _ _ ?_; try (clear hK16; clear K16)
                  refine TWp.seq_k fun K17 hK17 => ?_
                  refine TWp.sr fun K18 hK18 => ?_
                  simp -implicitDefEqProofs (disch := omega) only [seval, go_sem, h3, h4, h5]
                  repeat (with_reducible refine ⟨by first | omega | exact Keep.push _ _, ?_⟩)
                  refine hK18 _ _ ?_; try (clear hK18; clear K18)
                  refine TWp.cond_k fun K19 hK19 => ?_
                  simp -implicitDefEqProofs (disch := omega) only [seval, go_sem, h3, h4, h5]
                  refine hK19 _ (fun hb => ?_) (fun hb => ?_) <;> clear hK19 <;> clear K19
                  · try (replace hb := of_decide_eq_true hb)
                    try (exact absurd hb (by decide))
                    all_goals
                      refine TWp.rk fun K20 hK20 => ?_
                      simp -implicitDefEqProofs (disch := omega) only [seval, go_sem, h3, h4, h5]
                      repeat (with_reducible refine ⟨by first | omega | exact Keep.push _ _, ?_⟩)
                      refine hK20 _ _ ?_; try (clear hK20; clear K20)
                      refine hK17 _ _ ?_; try (clear hK17; clear K17)
                      refine TWp.sr fun K21 hK21 => ?_
                      simp -implicitDefEqProofs (disch := omega) only [seval, go_sem, h3, h4, h5]
                      repeat (with_reducible refine ⟨by first | omega | exact Keep.push _ _, ?_⟩)
                      refine hK21 _ _ ?_; try (clear hK21; clear K21)
                      refine TWp.cond_k fun K22 hK22 => ?_
                      simp -implicitDefEqProofs (disch := omega) only [seval, go_sem, h3, h4, h5]
                      refine hK22 _ (fun hb => ?_) (fun hb => ?_) <;> clear hK22 <;> clear K22
                      · try (replace hb := of_decide_eq_true hb)
                        try (exact absurd hb (by decide))
                        all_goals
                          refine TWp.sr fun K23 hK23 => ?_
                          simp -implicitDefEqProofs (disch := omega) only [seval, go_sem, h3, h4, h5]
                          repeat (with_reducible refine ⟨by first | omega | exact Keep.push _ _, ?_⟩)
                          refine hK23 _ _ ?_; try (clear hK23; clear K23)
                          refine TWp.ret ⟨.inr rfl, [_], ⟨rfl, trivial⟩, ?_⟩
                          exact absurd (by rw [fold_lo (sha p) i (by omega)]) hb
                      · try (replace hb := of_decide_eq_false hb)
                        try (exact absurd hb (by decide))
                        all_goals
                          refine TWp.skip ?_
                          refine hK15 _ _ ?_; try (clear hK15; clear K15)
                          refine TWp.rk fun K24 hK24 => ?_
                          simp -implicitDefEqProofs (disch := omega) only [seval, go_sem, h3, h4, h5]
                          repeat (with_reducible refine ⟨by first | omega | exact Keep.push _ _, ?_⟩)
                          refine hK24 _ _ ?_; try (clear hK24; clear K24)
                          exact ⟨n - 1, by omega, i + 1, gs, by omega, h3, h4, rfl⟩
                  · try (replace hb := of_decide_eq_false hb)
                    try (exact absurd hb (by decide))
                    all_goals
                      refine TWp.skip ?_
                      refine hK17 _ _ ?_; try (clear hK17; clear K17)
                      refine TWp.sr fun K25 hK25 => ?_
                      simp -implicitDefEqProofs (disch := omega) only [seval, go_sem, h3, h4, h5]
                      repeat (with_reducible refine ⟨by first | omega | exact Keep.push _ _, ?_⟩)
                      refine hK25 _ _ ?_; try (clear hK25; clear K25)
                      refine TWp.cond_k fun K26 hK26 => ?_
                      simp -implicitDefEqProofs (disch := omega) only [seval, go_sem, h3, h4, h5]
                      refine hK26 _ (fun hb => ?_) (fun hb => ?_) <;> clear hK26 <;> clear K26
                      · try (replace hb := of_decide_eq_true hb)
                        try (exact absurd hb (by decide))
                        all_goals
                          refine TWp.sr fun K27 hK27 => ?_
                          simp -implicitDefEqProofs (disch := omega) only [seval, go_sem, h3, h4, h5]
                          repeat (with_reducible refine ⟨by first | omega | exact Keep.push _ _, ?_⟩)
                          refine hK27 _ _ ?_; try (clear hK27; clear K27)
                          refine TWp.ret ⟨.inr rfl, [_], ⟨rfl, trivial⟩, ?_⟩
                          exact absurd (by rw [fold_hi (sha p) i (by omega) (by omega)]) hb
                      · try (replace hb := of_decide_eq_false hb)
                        try (exact absurd hb (by decide))
                        all_goals
                          refine TWp.skip ?_
                          refine hK15 _ _ ?_; try (clear hK15; clear K15)
                          refine TWp.rk fun K28 hK28 => ?_
                          simp -implicitDefEqProofs (disch := omega) only [seval, go_sem, h3, h4, h5]
                          repeat (with_reducible refine ⟨by first | omega | exact Keep.push _ _, ?_⟩)
                          refine hK28 _ _ ?_; try (clear hK28; clear K28)
                          exact ⟨n - 1, by omega, i + 1, gs, by omega, h3, h4, rfl⟩
              · try (replace hb := of_decide_eq_false hb)
                try (exact absurd hb (by decide))
                all_goals
                  refine TWp.exit ?_
                  refine hK10 _ _ ?_; try (clear hK10; clear K10)
                  refine TWp.sr fun K29 hK29 => ?_
                  simp -implicitDefEqProofs (disch := omega) only [seval, go_sem, h3, h4, h5]
                  repeat (with_reducible refine ⟨by first | omega | exact Keep.push _ _, ?_⟩)
                  refine hK29 _ _ ?_; try (clear hK29; clear K29)
                  refine TWp.ret ⟨.inr rfl, [_], ⟨rfl, trivial⟩, ?_⟩
                  rfl
set_option maxRecDepth 8000 in
set_option maxHeartbeats 1000000 in
theorem c_HashLengths (S : TS) (n : BitVec 16) (b : BitVec 8) : TCall env 3 [.lit (w16 n), .lit (w8 b)] S fun r S' => r = .lit (.bool true) := by
  obtain ⟨m, hm⟩ : ∃ m, m = n % 300#16 := ⟨_, rfl⟩
  have hml : m.toNat < 300 := by rw [hm, BitVec.toNat_umod]; exact Nat.mod_lt _ (by decide)
  refine TCall.of 26 [.tmp 4] Tryd.func3 rfl rfl rfl rfl (by kernel_rfl) rfl ?_
  refine TWp.sr fun K0 hK0 => ?_
  simp -implicitDefEqProofs (disch := omega) only [seval, go_sem]
  repeat (with_reducible refine ⟨by first | omega | exact Keep.push _ _, ?_⟩)
  refine hK0 _ _ ?_; try (clear hK0; clear K0)
  refine TWp.seq_k fun K1 hK1 => ?_
  refine TWp.sr fun K2 hK2 => ?_
  simp -implicitDefEqProofs (disch := omega) only [seval, go_sem]
  repeat (with_reducible refine ⟨by first | omega | exact Keep.push _ _, ?_⟩)
  refine c_godownlaw02_bare ?_
  simp -implicitDefEqProofs (disch := omega) only [seval, go_sem]
  repeat (with_reducible refine ⟨by first | omega | exact Keep.push _ _, ?_⟩)
  refine hK2 _ _ ?_; try (clear hK2; clear K2)
  refine TWp.cond_k fun K3 hK3 => ?_
  simp -implicitDefEqProofs (disch := omega) only [seval, go_sem]
  refine hK3 _ (fun hb => ?_) (fun hb => ?_) <;> clear hK3 <;> clear K3
  · try (replace hb := of_decide_eq_true hb)
    refine TWp.sr fun K4 hK4 => ?_
    simp -implicitDefEqProofs (disch := omega) only [seval, go_sem]
    repeat (with_reducible refine ⟨by first | omega | exact Keep.push _ _, ?_⟩)
    refine hK4 _ _ ?_; try (clear hK4; clear K4)
    refine TWp.ret ⟨.inr rfl, [_], ⟨rfl, trivial⟩, ?_⟩
    cases hb
  · try (replace hb := of_decide_eq_false hb)
    refine TWp.skip ?_
    refine hK1 _ _ ?_; try (clear hK1; clear K1)
    refine TWp.sr fun K5 hK5 => ?_
    simp -implicitDefEqProofs (disch := omega) only [seval, go_sem]
    repeat (with_reducible refine ⟨by first | omega | exact Keep.push _ _, ?_⟩)
    refine hK5 _ _ ?_; try (clear hK5; clear K5)
    refine TWp.seq_k fun K6 hK6 => ?_
    refine TWp.sr fun K7 hK7 => ?_
    simp -implicitDefEqProofs (disch := omega) only [seval, go_sem]
    repeat (with_reducible refine ⟨by first | omega | exact Keep.push _ _, ?_⟩)
    refine hK7 _ _ ?_; try (clear hK7; clear K7)
    refine TWp.block ?_
    refine TWp.asRow 5 1 rfl (.inl rfl) ?_
    refine TWp.loop (fun n' T S' => ∃ i k, n' + i = m.toNat ∧ T 0 = .lit (w16 n) ∧ T 1 = .lit (w8 b) ∧ T 5 = .sl (.own k) 1 (dB (List.replicate i b)) ∧ T 6 = .lit (.int .i64 (i : Int)) ∧ S'.objs k = .lin) (m.toNat) ?_ ?_
    · exact ⟨0, _, rfl, rfl, rfl, rfl, rfl, push_self _ _⟩
    rintro n' T S' ⟨i, k, hi, h0, h1, h5, h6, o5⟩
    have hrl : (List.replicate i b).length = i := List.length_replicate
    have hs := sha_len (List.replicate i b)
    refine TWp.seq_k fun K8 hK8 => ?_
    refine TWp.sr fun K9 hK9 => ?_
    simp -implicitDefEqProofs (disch := omega) only [seval, go_sem, ← hm, h0, h1, h5, h6, o5, hrl]
    repeat (with_reducible refine ⟨by first | omega | exact Keep.push _ _, ?_⟩)
    refine hK9 _ _ ?_; try (clear hK9; clear K9)
    refine TWp.cond_k fun K10 hK10 => ?_
    simp -implicitDefEqProofs (disch := omega) only [seval, go_sem, ← hm, h0, h1, h5, h6, o5, hrl]
    refine hK10 _ (fun hb => ?_) (fun hb => ?_) <;> clear hK10 <;> clear K10
    · try (replace hb := of_decide_eq_true hb)
      refine TWp.skip ?_
      refine hK8 _ _ ?_; try (clear hK8; clear K8)
      refine TWp.seq_k fun K11 hK11 => ?_
      refine TWp.block ?_
      refine TWp.rk fun K12 hK12 => ?_
      simp -implicitDefEqProofs (disch := omega) only [seval, go_sem, ← hm, h0, h1, h5, h6, o5, hrl]
      repeat (with_reducible refine ⟨by first | omega | exact Keep.push _ _, ?_⟩)
      refine hK12 _ _ ?_; try (clear hK12; clear K12)
      refine hK11 _ _ ?_; try (clear hK11; clear K11)
      refine TWp.rk fun K13 hK13 => ?_
      simp -implicitDefEqProofs (disch := omega) only [seval, go_sem, ← hm, h0, h1, h5, h6, o5, hrl]
      repeat (with_reducible refine ⟨by first | omega | exact Keep.push _ _, ?_⟩)
      refine hK13 _ _ ?_; try (clear hK13; clear K13)
      refine ⟨n' - 1, by omega, i + 1, S'.n, by omega, h0, h1, ?_, rfl, push_self (S'.set k .gone) _⟩
      show TV.sl _ _ _ = _
      rw [List.replicate_succ', dB_app]; rfl
    · try (replace hb := of_decide_eq_false hb)
      refine TWp.exit ?_
      refine hK6 _ _ ?_; try (clear hK6; clear K6)
      refine TWp.sr fun K14 hK14 => ?_
      simp -implicitDefEqProofs (disch := omega) only [seval, go_sem, ← hm, h0, h1, h5, h6, o5, hrl]
      repeat (with_reducible refine ⟨by first | omega | exact Keep.push _ _, ?_⟩)
      refine c_hash_Sum ?_
      simp -implicitDefEqProofs (disch := omega) only [seval, go_sem, ← hm, h0, h1, h5, h6, o5, hrl]
      repeat (with_reducible refine ⟨by first | omega | exact Keep.push _ _, ?_⟩)
      refine c_New ?_
      simp -implicitDefEqProofs (disch := omega) only [seval, go_sem, ← hm, h0, h1, h5, h6, o5, hrl]
      repeat (with_reducible refine ⟨by first | omega | exact Keep.push _ _, ?_⟩)
      refine c_godownref02_Sum ?_
      simp -implicitDefEqProofs (disch := omega) only [seval, go_sem, ← hm, h0, h1, h5, h6, o5, hrl]
      repeat (with_reducible refine ⟨by first | omega | exact Keep.push _ _, ?_⟩)
      refine c_godownref01_Bytes ?_
      simp -implicitDefEqProofs (disch := omega) only [seval, go_sem, ← hm, h0, h1, h5, h6, o5, hrl]
      repeat (with_reducible refine ⟨by first | omega | exact Keep.push _ _, ?_⟩)
      refine hK14 _ _ ?_; try (clear hK14; clear K14)
      refine TWp.ret ⟨.inr rfl, [_], ⟨rfl, trivial⟩, ?_⟩
      rfl
set_option maxRecDepth 8000 in
set_option maxHeartbeats 1000000 in
theorem c_HashOwn (S : TS) (g : Tag) (p : List (BitVec 8)) (b : BitVec 8) : TCall env 4 [.sl g 1 (dB p), .lit (w8 b)] S fun r S' => r = .lit (.bool true) := by
  have hl2 := sha_len p
  refine TCall.of 42 [.tmp 4] Tryd.func4 rfl rfl rfl rfl (by kernel_rfl) rfl ?_
  refine TWp.sr fun K0 hK0 => ?_
  simp -implicitDefEqProofs (disch := omega) only [seval, go_sem]
  repeat (with_reducible refine ⟨by first | omega | exact Keep.push _ _, ?_⟩)
  refine hK0 _ _ ?_; try (clear hK0; clear K0)
  refine TWp.seq_k fun K1 hK1 => ?_
  refine TWp.sr fun K2 hK2 => ?_
  simp -implicitDefEqProofs (disch := omega) only [seval, go_sem]
  repeat (with_reducible refine ⟨by first | omega | exact Keep.push _ _, ?_⟩)
  refine c_godownlaw02_bare ?_
  simp -implicitDefEqProofs (disch := omega) only [seval, go_sem]
  repeat' (first | with_reducible refine ⟨by first | omega | exact Keep.push _ _, ?_⟩ | (refine brT_split (fun hb => ?_) (fun hb => ?_) <;> simp -implicitDefEqProofs (disch := omega) only [seval, go_sem, hb]))
  all_goals
    refine hK2 _ _ ?_; try (clear hK2; clear K2)
    refine TWp.cond_k fun K3 hK3 => ?_
    simp -implicitDefEqProofs (disch := omega) only [seval, go_sem]
    refine hK3 _ (fun hb => ?_) (fun hb => ?_) <;> clear hK3 <;> clear K3
    · try (replace hb := of_decide_eq_true hb)
      try (exact absurd hb (by decide))
      all_goals
        refine TWp.sr fun K4 hK4 => ?_
        simp -implicitDefEqProofs (disch := omega) only [seval, go_sem]
        repeat (with_reducible refine ⟨by first | omega | exact Keep.push _ _, ?_⟩)
        refine c_godownlaw02_bare ?_
        simp -implicitDefEqProofs (disch := omega) only [seval, go_sem]
        repeat (with_reducible refine ⟨by first | omega | exact Keep.push _ _, ?_⟩)
        refine hK4 _ _ ?_; try (clear hK4; clear K4)
        refine TWp.ret ⟨.inr rfl, [_], ⟨rfl, trivial⟩, ?_⟩
        rfl
    · try (replace hb := of_decide_eq_false hb)
      try (exact absurd hb (by decide))
      all_goals
        refine TWp.skip ?_
        refine hK1 _ _ ?_; try (clear hK1; clear K1)
        refine TWp.sr fun K5 hK5 => ?_
        simp -implicitDefEqProofs (disch := omega) only [seval, go_sem]
        repeat (with_reducible refine ⟨by first | omega | exact Keep.push _ _, ?_⟩)
        refine c_Join_g (a := p) (b := []) ?_ ?_ ?_ (by simp; omega)
        rotate_left
        · rfl
        · rfl
        simp -implicitDefEqProofs (disch := omega) only [seval, go_sem]
        repeat (with_reducible refine ⟨by first | omega | exact Keep.push _ _, ?_⟩)
        refine hK5 _ _ ?_; try (clear hK5; clear K5)
        refine TWp.sr fun K6 hK6 => ?_
        simp -implicitDefEqProofs (disch := omega) only [seval, go_sem]
        repeat (with_reducible refine ⟨by first | omega | exact Keep.push _ _, ?_⟩)
        refine c_hash_Sum_w ?_
        simp -implicitDefEqProofs (disch := omega) only [seval, go_sem]
        repeat (with_reducible refine ⟨by first | omega | exact Keep.push _ _, ?_⟩)
        refine hK6 _ _ ?_; try (clear hK6; clear K6)
        refine TWp.sr fun K7 hK7 => ?_
        simp -implicitDefEqProofs (disch := omega) only [seval, go_sem]
        repeat (with_reducible refine ⟨by first | omega | exact Keep.push _ _, ?_⟩)
        refine c_Join_g (a := sha p) (b := []) ?_ ?_ ?_ (by simp; omega)
        rotate_left
        · simp -implicitDefEqProofs (disch := omega) only [seval, go_sem, hl2]
        · rfl
        simp -implicitDefEqProofs (disch := omega) only [seval, go_sem]
        repeat (with_reducible refine ⟨by first | omega | exact Keep.push _ _, ?_⟩)
        refine hK7 _ _ ?_; try (clear hK7; clear K7)
        refine TWp.seq_k fun K8 hK8 => ?_
        refine TWp.sr fun K9 hK9 => ?_
        simp -implicitDefEqProofs (disch := omega) only [seval, go_sem]
        repeat (with_reducible refine ⟨by first | omega | exact Keep.push _ _, ?_⟩)
        refine hK9 _ _ ?_; try (clear hK9; clear K9)
        refine TWp.block ?_
        refine TWp.loop (fun n T S' => ∃ i xs k1 k2 id, n + i = 32 ∧ xs.length = 32 ∧ T 0 = .sl g 1 (dB p) ∧ T 1 = .lit (w8 b) ∧ T 5 = .sl (.own k1) 1 (dB p) ∧ T 6 = .vs id 0 1 32 ∧ T 7 = .sl (.own k2) 1 (dB (sha p)) ∧ T 8 = .lit (.int .i64 (i : Int)) ∧ S'.objs id = .cells 5 (cellsD (dB xs))) (32) ?_ ?_
        · refine ⟨0, sha p, _, _, S.n + 1, rfl, hl2, rfl, rfl, rfl, rfl, rfl, rfl, ?_⟩
          exact (push_lt (by simp only [TS.push_n]; omega)).trans (push_self (S.push .lin) _)
        rintro n T S' ⟨i, xs, k1, k2, id, hi, hxl, h0, h1, h5, h6, h7, h8, o6⟩
        refine TWp.seq_k fun K10 hK10 => ?_
        refine TWp.sr fun K11 hK11 => ?_
        simp -implicitDefEqProofs (disch := omega) only [seval, go_sem, h0, h1, h5, h6, h7, h8, o6, hxl, List.append_nil]
        repeat (with_reducible refine ⟨by first | omega | exact Keep.push _ _, ?_⟩)
        refine hK11 _ _ ?_; try (clear hK11; clear K11)
        refine TWp.cond_k fun K12 hK12 => ?_
        simp -implicitDefEqProofs (disch := omega) only [seval, go_sem, h0, h1, h5, h6, h7, h8, o6, hxl, List.append_nil]
        refine hK12 _ (fun hb => ?_) (fun hb => ?_) <;> clear hK12 <;> clear K12
        · try (replace hb := of_decide_eq_true hb)
          try (exact absurd hb (by decide))
          all_goals
            refine TWp.skip ?_
            refine hK10 _ _ ?_; try (clear hK10; clear K10)
            refine TWp.seq_k fun K13 hK13 => ?_
            refine TWp.block ?_
            refine TWp.rk fun K14 hK14 => ?_
            simp -implicitDefEqProofs (disch := omega) only [seval, go_sem, h0, h1, h5, h6, h7, h8, o6, hxl, List.append_nil]
            repeat (with_reducible refine ⟨by first | omega | exact Keep.push _ _, ?_⟩)
            refine hK14 _ _ ?_; try (clear hK14; clear K14)
            refine hK13 _ _ ?_; try (clear hK13; clear K13)
            refine TWp.rk fun K15 hK15 => ?_
            simp -implicitDefEqProofs (disch := omega) only [seval, go_sem, h0, h1, h5, h6, h7, h8, o6, hxl, List.append_nil]
            repeat (with_reducible refine ⟨by first | omega | exact Keep.push _ _, ?_⟩)
            refine hK15 _ _ ?_; try (clear hK15; clear K15)
            exact ⟨n - 1, by omega, i + 1, xs.set i b, k1, k2, id, by omega, by simp [hxl], h0, h1, h5, h6, h7, rfl, by simp [TS.set]⟩
        · try (replace hb := of_decide_eq_false hb)
          try (exact absurd hb (by decide))
          all_goals
            refine TWp.exit ?_
            refine hK8 _ _ ?_; try (clear hK8; clear K8)
            refine TWp.sr fun K16 hK16 => ?_
            simp -implicitDefEqProofs (disch := omega) only [seval, go_sem, h0, h1, h5, h6, h7, h8, o6, hxl, List.append_nil]
            repeat (with_reducible refine ⟨by first | omega | exact Keep.push _ _, ?_⟩)
            refine c_godownref01_Bytes ?_
            simp -implicitDefEqProofs (disch := omega) only [seval, go_sem, h0, h1, h5, h6, h7, h8, o6, hxl, List.append_nil]
            repeat (with_reducible refine ⟨by first | omega | exact Keep.push _ _, ?_⟩)
            refine c_hash_Sum ?_
            simp -implicitDefEqProofs (disch := omega) only [seval, go_sem, h0, h1, h5, h6, h7, h8, o6, hxl, List.append_nil]
            repeat (with_reducible refine ⟨by first | omega | exact Keep.push _ _, ?_⟩)
            refine c_godownref01_Bytes ?_
            simp -implicitDefEqProofs (disch := omega) only [seval, go_sem, h0, h1, h5, h6, h7, h8, o6, hxl, List.append_nil]
            repeat' (first | with_reducible refine ⟨by first | omega | exact Keep.push _ _, ?_⟩ | (refine brT_split (fun hb => ?_) (fun hb => ?_) <;> simp -implicitDefEqProofs (disch := omega) only [seval, go_sem, hb, h0, h1, h5, h6, h7, h8, o6, hxl, List.append_nil]))
            all_goals
              refine hK16 _ _ ?_; try (clear hK16; clear K16)
              refine TWp.ret ⟨.inr rfl, [_], ⟨rfl, trivial⟩, ?_⟩
              rfl

end Go.Proofs.YteafcknljhglkaaDoor
