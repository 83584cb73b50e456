/-
  What the functions of the hash do: bytes that are alike, joined, turned.
-/
import Derived.Test.YteafcknljhglkaaDoorHd
set_option linter.unusedVariables false
set_option linter.unusedSimpArgs false
namespace Go.Proofs.YteafcknljhglkaaDoor
open Go.RowKit TL

theorem take_succ_getD {α : Type} {a : List α} {i : Nat} (d : α) (h : i < a.length) : a.take (i + 1) = a.take i ++ [a.getD i d] := by
  rw [List.take_succ_eq_append_getElem h]
  simp [List.getD_eq_getElem?_getD, List.getElem?_eq_getElem h]

set_option maxRecDepth 8000 in
theorem c_godownref01_Bytes_ok (S : TS) (g1 g2 : Tag) (a b : List (BitVec 8)) (ha : a.length ≤ 1000000) : TCall env 9 [.sl g1 1 (dB a), .sl g2 1 (dB b)] S fun r S' => r = .lit (.bool (decide (a = b))) ∧ S' = S := by
  refine TCall.of 26 [.tmp 4] Tryd.func9 rfl rfl rfl rfl (by kernel_rfl) rfl ?_
  refine TWp.sr fun K0 hK0 => ?_
  simp -implicitDefEqProofs (disch := omega) only [seval, go_sem]
  repeat (refine ⟨by first | omega | exact Keep.push _ _, ?_⟩)
  refine hK0 _ _ ?_; try (clear hK0; clear K0)
  refine TWp.seq_k fun K1 hK1 => ?_
  refine TWp.sr fun K2 hK2 => ?_
  simp -implicitDefEqProofs (disch := omega) only [seval, go_sem]
  repeat (refine ⟨by first | omega | exact Keep.push _ _, ?_⟩)
  refine hK2 _ _ ?_; try (clear hK2; clear K2)
  refine TWp.cond_k fun K3 hK3 => ?_
  simp -implicitDefEqProofs (disch := omega) only [seval, go_sem]
  refine hK3 _ (fun hb => ?_) (fun hb => ?_) <;> clear hK3 <;> clear K3
  · try (replace hb := of_decide_eq_true hb)
    refine TWp.sr fun K4 hK4 => ?_
    simp -implicitDefEqProofs (disch := omega) only [seval, go_sem]
    repeat (refine ⟨by first | omega | exact Keep.push _ _, ?_⟩)
    refine hK4 _ _ ?_; try (clear hK4; clear K4)
    refine TWp.ret ⟨.inr rfl, [_], ⟨rfl, trivial⟩, ?_, rfl⟩
    show TV.lit (.bool false) = _
    rw [decide_eq_false]
    intro h; subst h; exact hb rfl
  · try (replace hb := of_decide_eq_false hb)
    refine TWp.skip ?_
    refine hK1 _ _ ?_; try (clear hK1; clear K1)
    refine TWp.seq_k fun K5 hK5 => ?_
    refine TWp.sr fun K6 hK6 => ?_
    simp -implicitDefEqProofs (disch := omega) only [seval, go_sem]
    repeat (refine ⟨by first | omega | exact Keep.push _ _, ?_⟩)
    refine hK6 _ _ ?_; try (clear hK6; clear K6)
    refine TWp.block ?_
    refine TWp.loop (fun n T S' => ∃ i, n + i = a.length ∧ a.take i = b.take i ∧ T 0 = .sl g1 1 (dB a) ∧ T 1 = .sl g2 1 (dB b) ∧ T 5 = .lit (.int .i64 (i : Int)) ∧ S' = S) (a.length) ?_ ?_
    · exact ⟨0, rfl, rfl, rfl, rfl, rfl, rfl⟩
    rintro n T S' ⟨i, hn, htk, h0, h1, h5, rfl⟩
    refine TWp.seq_k fun K7 hK7 => ?_
    refine TWp.sr fun K8 hK8 => ?_
    simp -implicitDefEqProofs (disch := omega) only [seval, go_sem, h0, h1, h5]
    repeat (refine ⟨by first | omega | exact Keep.push _ _, ?_⟩)
    refine hK8 _ _ ?_; try (clear hK8; clear K8)
    refine TWp.cond_k fun K9 hK9 => ?_
    simp -implicitDefEqProofs (disch := omega) only [seval, go_sem, h0, h1, h5]
    refine hK9 _ (fun hb => ?_) (fun hb => ?_) <;> clear hK9 <;> clear K9
    · try (replace hb := of_decide_eq_true hb)
      refine TWp.skip ?_
      refine hK7 _ _ ?_; try (clear hK7; clear K7)
      refine TWp.seq_k fun K10 hK10 => ?_
      refine TWp.block ?_
      refine TWp.sd [(0, 0), (1, 0), (2, 0), (3, 0), (4, 0), (5, 0), (6, 0), (7, 0), (8, 0)] follows (by kernel_rfl) fun K11 hK11 => ?_
      simp -implicitDefEqProofs (disch := omega) only [seval, go_sem, h0, h1, h5]
      repeat (refine ⟨by first | omega | exact Keep.push _ _, ?_⟩)
      refine hK11 _ _ ?_; try (clear hK11; clear K11)
      refine TWp.cond_k fun K12 hK12 => ?_
      simp -implicitDefEqProofs (disch := omega) only [seval, go_sem, h0, h1, h5]
      refine hK12 _ (fun hb => ?_) (fun hb => ?_) <;> clear hK12 <;> clear K12
      · try (replace hb := of_decide_eq_true hb)
        refine TWp.sr fun K13 hK13 => ?_
        simp -implicitDefEqProofs (disch := omega) only [seval, go_sem, h0, h1, h5]
        repeat (refine ⟨by first | omega | exact Keep.push _ _, ?_⟩)
        refine hK13 _ _ ?_; try (clear hK13; clear K13)
        refine TWp.ret ⟨.inr rfl, [_], ⟨rfl, trivial⟩, ?_, rfl⟩
        show TV.lit (.bool false) = _
        rw [decide_eq_false]
        intro h; subst h; exact hb rfl
      · try (replace hb := of_decide_eq_false hb)
        refine TWp.skip ?_
        refine hK10 _ _ ?_; try (clear hK10; clear K10)
        refine TWp.rk fun K14 hK14 => ?_
        simp -implicitDefEqProofs (disch := omega) only [seval, go_sem, h0, h1, h5]
        repeat (refine ⟨by first | omega | exact Keep.push _ _, ?_⟩)
        refine hK14 _ _ ?_; try (clear hK14; clear K14)
        refine ⟨n - 1, by omega, i + 1, by omega, ?_, h0, h1, rfl, rfl⟩
        have e : a.getD i 0#8 = b.getD i 0#8 := BitVec.eq_of_toNat_eq (by omega)
        rw [take_succ_getD 0#8 (by omega), take_succ_getD 0#8 (by omega), htk, e]
    · try (replace hb := of_decide_eq_false hb)
      refine TWp.exit ?_
      refine hK5 _ _ ?_; try (clear hK5; clear K5)
      refine TWp.sr fun K15 hK15 => ?_
      simp -implicitDefEqProofs (disch := omega) only [seval, go_sem, h0, h1, h5]
      repeat (refine ⟨by first | omega | exact Keep.push _ _, ?_⟩)
      refine hK15 _ _ ?_; try (clear hK15; clear K15)
      refine TWp.ret ⟨.inr rfl, [_], ⟨rfl, trivial⟩, ?_, rfl⟩
      show TV.lit (.bool true) = _
      rw [decide_eq_true]
      rwa [List.take_of_length_le (by omega), List.take_of_length_le (by omega)] at htk

theorem c_godownref01_Bytes {S : TS} {g1 g2 : Tag} {a b : List (BitVec 8)} {K : TV → TS → Prop} (hK : K (.lit (.bool (decide (a = b)))) S) (ha : a.length ≤ 1000000 := by omega) : TCall env 9 [.sl g1 1 (dB a), .sl g2 1 (dB b)] S K :=
  (c_godownref01_Bytes_ok S g1 g2 a b ha).mono fun t S' ⟨h1, h2⟩ => by rw [h1, h2]; exact hK

set_option maxRecDepth 8000 in
theorem c_godownref01_Join_ok (S : TS) (ta tb : TV) (a b : List (BitVec 8)) (ha : a.length + b.length ≤ 1000000) (h1 : srcD S false 1 ta = some (dB a)) (h2 : srcD (S.push .lin) false 1 tb = some (dB b)) : TCall env 13 [ta, tb] S fun r S' => ∃ k, r = .sl (.own k) 1 (dB (a ++ b)) ∧ S.n ≤ k ∧ S'.objs k = .lin ∧ Keep S S' := by
  refine TCall.of 12 [.tmp 4] Tryd.func13 rfl rfl rfl rfl (by kernel_rfl) rfl ?_
  refine TWp.sr fun K0 hK0 => ?_
  simp -implicitDefEqProofs (disch := omega) only [seval, go_sem, h1, h2]
  repeat (refine ⟨by first | omega | exact Keep.push _ _, ?_⟩)
  refine hK0 _ _ ?_; try (clear hK0; clear K0)
  refine TWp.sr fun K1 hK1 => ?_
  simp -implicitDefEqProofs (disch := omega) only [seval, go_sem, h1, h2]
  repeat (refine ⟨by first | omega | exact Keep.push _ _, ?_⟩)
  refine hK1 _ _ ?_; try (clear hK1; clear K1)
  refine TWp.sr fun K2 hK2 => ?_
  simp -implicitDefEqProofs (disch := omega) only [seval, go_sem, h1, h2]
  repeat (refine ⟨by first | omega | exact Keep.push _ _, ?_⟩)
  refine hK2 _ _ ?_; try (clear hK2; clear K2)
  refine TWp.sr fun K3 hK3 => ?_
  simp -implicitDefEqProofs (disch := omega) only [seval, go_sem, h1, h2]
  repeat (refine ⟨by first | omega | exact Keep.push _ _, ?_⟩)
  refine hK3 _ _ ?_; try (clear hK3; clear K3)
  refine TWp.ret ⟨.inr rfl, [_], ⟨rfl, trivial⟩, _, ?_, ?_, push_self _ _, (Keep.push S _).push' _⟩
  · rw [dB_app]; rfl
  · simp only [TS.push_n]; omega

theorem c_Join_g {S : TS} {ta tb : TV} {a b : List (BitVec 8)} {K : TV → TS → Prop} (hK : K (.sl (.own S.n) 1 (dB (a ++ b))) (S.push .lin)) (h1 : srcD S false 1 ta = some (dB a)) (h2 : srcD (S.push .lin) false 1 tb = some (dB b)) (ha : a.length + b.length ≤ 1000000 := by omega) : TCall env 13 [ta, tb] S K :=
  (c_godownref01_Join_ok S ta tb a b ha h1 h2).row.mono fun t S' ⟨h1, h2⟩ => by rw [h1, h2]; exact hK
theorem c_godownref01_Join {S : TS} {g1 g2 : Tag} {a b : List (BitVec 8)} {K : TV → TS → Prop} (hK : K (.sl (.own S.n) 1 (dB (a ++ b))) (S.push .lin)) (ha : a.length + b.length ≤ 1000000 := by omega) : TCall env 13 [.sl g1 1 (dB a), .sl g2 1 (dB b)] S K :=
  c_Join_g hK rfl rfl ha

def tr (x : BitVec 32) (n : Nat) : BitVec 32 := x >>> n ||| x <<< (32 - n)
set_option maxRecDepth 8000 in
theorem c_godownref02_turned_ok (S : TS) (x : BitVec 32) (n : Nat) (hn : n ≤ 32) : TCall env 18 [.lit (w32 x), .lit (.int .i64 (n : Int))] S fun r S' => r = .lit (w32 (tr x n)) ∧ S' = S := by
  refine TCall.of 13 [.tmp 4] Tryd.func18 rfl rfl rfl rfl (by kernel_rfl) rfl ?_
  refine TWp.sr fun K0 hK0 => ?_
  simp -implicitDefEqProofs (disch := omega) only [seval, go_sem]
  repeat (refine ⟨by first | omega | exact Keep.push _ _, ?_⟩)
  refine hK0 _ _ ?_; try (clear hK0; clear K0)
  refine TWp.sd [(0, 0), (1, 0), (2, 0), (3, 0), (4, 0), (5, 0), (6, 0), (7, 0), (8, 0)] follows (by kernel_rfl) fun K1 hK1 => ?_
  simp -implicitDefEqProofs (disch := omega) only [seval, go_sem]
  repeat (refine ⟨by first | omega | exact Keep.push _ _, ?_⟩)
  refine hK1 _ _ ?_; try (clear hK1; clear K1)
  exact TWp.ret ⟨.inr rfl, [_], ⟨rfl, trivial⟩, rfl, rfl⟩

theorem c_godownref02_turned {S : TS} {x : BitVec 32} {n : Nat} {K : TV → TS → Prop} (hK : K (.lit (w32 (tr x (no_index (OfNat.ofNat n))))) S) (hn : OfNat.ofNat n ≤ 32 := by omega) : TCall env 18 [.lit (w32 x), .lit (.int .i64 (OfNat.ofNat n : Int))] S K :=
  (c_godownref02_turned_ok S x (OfNat.ofNat n) hn).mono fun t S' ⟨h1, h2⟩ => by rw [h1, h2]; exact hK


end Go.Proofs.YteafcknljhglkaaDoor
