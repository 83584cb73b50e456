/-
  What the functions of the hash do: a block's words.
-/
import Derived.Test.YteafcknljhglkaaDoorHa
set_option linter.unusedVariables false
set_option linter.unusedSimpArgs false
namespace Go.Proofs.YteafcknljhglkaaDoor
open Go.RowKit TL

theorem follows : env.P.follows .mixedOrders = true := by kernel_rfl

def wordAt (p : List (BitVec 8)) (i : Nat) : BitVec 32 :=
  (BitVec.setWidth 32 (p.getD i 0)) <<< 24 ||| (BitVec.setWidth 32 (p.getD (i + 1) 0)) <<< 16 ||| (BitVec.setWidth 32 (p.getD (i + 2) 0)) <<< 8 ||| (BitVec.setWidth 32 (p.getD (i + 3) 0))
def low (a : BitVec 32) : BitVec 32 := rot a (-7) ^^^ rot a (-18) ^^^ a >>> 3
def high (b : BitVec 32) : BitVec 32 := rot b (-17) ^^^ rot b (-19) ^^^ b >>> 10
def wordStep (p : List (BitVec 8)) (i : Nat) (w : List (BitVec 32)) : BitVec 32 :=
  if i < 16 then wordAt p (4 * i) else w.getD (i - 16) 0 + low (w.getD (i - 15) 0) + w.getD (i - 7) 0 + high (w.getD (i - 2) 0)
def sched (p : List (BitVec 8)) : Nat → List (BitVec 32)
  | 0 => z64
  | i + 1 => (sched p i).set i (wordStep p i (sched p i))
theorem sched_len (p : List (BitVec 8)) : ∀ i, (sched p i).length = 64
  | 0 => rfl
  | i + 1 => by simp [sched, sched_len p i]

theorem c_bits_RotateLeft32 {S : TS} {x : BitVec 32} {k : Int} {K : TV → TS → Prop} (h : K (.lit (w32 (rot x k))) S) : TCall env 21 [.lit (w32 x), .lit (.int .i64 k)] S K :=
  (rot_ok S x k).mono fun t S' ⟨h1, h2⟩ => by rw [h1, h2]; exact h

set_option maxRecDepth 8000 in
theorem c_hash_schedule_ok (S : TS) (g : Tag) (p : List (BitVec 8)) (hp : p.length = 64) : TCall env 20 [.sl g 1 (dB p)] S fun r S' => r = .agg (dW (sched p 64)) ∧ Keep S S' := by
  refine TCall.of 90 [.cell 2 44] Tryd.func20 rfl rfl rfl rfl (by kernel_rfl) rfl ?_
  refine TWp.sr fun K0 hK0 => ?_
  simp (disch := omega) only [seval, go_sem]
  repeat (refine ⟨by omega, ?_⟩)
  refine hK0 _ _ ?_; try (clear hK0; clear K0)
  refine TWp.sr fun K1 hK1 => ?_
  simp (disch := omega) only [seval, go_sem]
  repeat (refine ⟨by omega, ?_⟩)
  refine hK1 _ _ ?_; try (clear hK1; clear K1)
  refine TWp.seq_k fun K2 hK2 => ?_
  refine TWp.sr fun K3 hK3 => ?_
  simp (disch := omega) only [seval, go_sem]
  repeat (refine ⟨by omega, ?_⟩)
  refine hK3 _ _ ?_; try (clear hK3; clear K3)
  refine TWp.block ?_
  refine TWp.loop (fun n T S' => ∃ i ws, n + i = 64 ∧ ws = sched p i ∧ ws.length = 64 ∧ T 0 = .sl g 1 (dB p) ∧ T 2 = .ptr S.n 0 ∧ T 3 = .ptr (S.n + 1) 0 ∧ T 9 = .lit (.int .i64 (i : Int)) ∧ S' = ((S.push (.cells 44 (dW z64))).push (.cells 44 (dW ws)))) 64 ?_ ?_
  · exact ⟨0, _, rfl, rfl, rfl, rfl, rfl, rfl, rfl, rfl⟩
  rintro n T S' ⟨i, ws, hm, hws, hwl, h0, h2, h3, h9, rfl⟩
  refine TWp.sr fun K4 hK4 => ?_
  simp (disch := omega) only [seval, go_sem, h0, h2, h3, h9]
  repeat (refine ⟨by omega, ?_⟩)
  refine hK4 _ _ ?_; try (clear hK4; clear K4)
  refine TWp.seq_k fun K5 hK5 => ?_
  refine TWp.cond rfl (fun hb => ?_) (fun hb => ?_)
  · try (replace hb := of_decide_eq_true hb)
    refine TWp.skip ?_
    refine hK5 _ _ ?_; try (clear hK5; clear K5)
    refine TWp.seq_k fun K6 hK6 => ?_
    refine TWp.block ?_
    refine TWp.sr fun K7 hK7 => ?_
    simp (disch := omega) only [seval, go_sem, h0, h2, h3, h9]
    repeat (refine ⟨by omega, ?_⟩)
    refine hK7 _ _ ?_; try (clear hK7; clear K7)
    refine TWp.seq_k fun K8 hK8 => ?_
    refine TWp.sr fun K9 hK9 => ?_
    simp (disch := omega) only [seval, go_sem, h0, h2, h3, h9]
    repeat (refine ⟨by omega, ?_⟩)
    refine hK9 _ _ ?_; try (clear hK9; clear K9)
    refine TWp.cond rfl (fun hb => ?_) (fun hb => ?_)
    · try (replace hb := of_decide_eq_true hb)
      refine TWp.sd [(0, 0), (1, 0), (2, 0), (3, 0), (4, 0), (5, 0), (6, 0), (7, 0), (8, 0), (9, 0), (10, 0), (11, 0), (12, 0), (13, 0), (14, 0), (15, 0), (16, 0), (17, 0), (18, 0), (19, 0), (20, 0), (21, 0), (22, 0), (23, 0), (24, 0), (25, 0), (26, 0), (27, 0), (28, 0), (29, 0), (30, 0), (31, 0), (32, 0), (33, 0), (34, 0), (35, 2)] follows (by kernel_rfl) fun K10 hK10 => ?_
      simp (disch := omega) only [seval, go_sem, h0, h2, h3, h9]
      repeat (refine ⟨by omega, ?_⟩)
      refine hK10 _ _ ?_; try (clear hK10; clear K10)
      refine TWp.exit ?_
      refine hK6 _ _ ?_; try (clear hK6; clear K6)
      refine TWp.rk fun K11 hK11 => ?_
      simp (disch := omega) only [seval, go_sem, h0, h2, h3, h9]
      repeat (refine ⟨by omega, ?_⟩)
      refine hK11 _ _ ?_; try (clear hK11; clear K11)
      subst hws
      refine ⟨n - 1, by omega, i + 1, _, by omega, rfl, sched_len p (i + 1), h0, h2, h3, rfl, ?_⟩
      rw [sched, wordStep, if_pos (by omega)]
      rfl
    · try (replace hb := of_decide_eq_false hb)
      refine TWp.skip ?_
      refine hK8 _ _ ?_; try (clear hK8; clear K8)
      refine TWp.sd [(0, 0), (1, 0), (2, 0), (3, 0), (4, 0), (5, 0), (6, 0), (7, 0), (8, 0), (9, 0)] follows (by kernel_rfl) fun K12 hK12 => ?_
      simp (disch := omega) only [seval, go_sem, h0, h2, h3, h9]
      repeat (refine ⟨by omega, ?_⟩)
      refine hK12 _ _ ?_; try (clear hK12; clear K12)
      refine TWp.sr fun K13 hK13 => ?_
      simp (disch := omega) only [seval, go_sem, h0, h2, h3, h9]
      refine c_bits_RotateLeft32 ?_
      simp (disch := omega) only [seval, go_sem, h0, h2, h3, h9]
      refine c_bits_RotateLeft32 ?_
      simp (disch := omega) only [seval, go_sem, h0, h2, h3, h9]
      repeat (refine ⟨by omega, ?_⟩)
      refine hK13 _ _ ?_; try (clear hK13; clear K13)
      refine TWp.sr fun K14 hK14 => ?_
      simp (disch := omega) only [seval, go_sem, h0, h2, h3, h9]
      refine c_bits_RotateLeft32 ?_
      simp (disch := omega) only [seval, go_sem, h0, h2, h3, h9]
      refine c_bits_RotateLeft32 ?_
      simp (disch := omega) only [seval, go_sem, h0, h2, h3, h9]
      repeat (refine ⟨by omega, ?_⟩)
      refine hK14 _ _ ?_; try (clear hK14; clear K14)
      refine TWp.dk [(0, 0), (1, 0), (2, 0), (3, 0), (4, 0), (5, 0), (6, 0), (7, 0), (8, 0), (9, 0), (10, 0), (11, 0), (12, 0), (13, 0), (14, 0), (15, 2)] follows (by kernel_rfl) fun K15 hK15 => ?_
      simp (disch := omega) only [seval, go_sem, h0, h2, h3, h9]
      repeat (refine ⟨by omega, ?_⟩)
      refine hK15 _ _ ?_; try (clear hK15; clear K15)
      refine hK6 _ _ ?_; try (clear hK6; clear K6)
      refine TWp.rk fun K16 hK16 => ?_
      simp (disch := omega) only [seval, go_sem, h0, h2, h3, h9]
      repeat (refine ⟨by omega, ?_⟩)
      refine hK16 _ _ ?_; try (clear hK16; clear K16)
      subst hws
      refine ⟨n - 1, by omega, i + 1, _, by omega, rfl, sched_len p (i + 1), h0, h2, h3, rfl, ?_⟩
      rw [sched, wordStep, if_neg (by omega)]
      rfl
  · try (replace hb := of_decide_eq_false hb)
    refine TWp.exit ?_
    refine hK2 _ _ ?_; try (clear hK2; clear K2)
    refine TWp.sr fun K17 hK17 => ?_
    simp (disch := omega) only [seval, go_sem, h0, h2, h3, h9]
    repeat (refine ⟨by omega, ?_⟩)
    refine hK17 _ _ ?_; try (clear hK17; clear K17)
    have hi : i = 64 := by omega
    subst hi
    refine TWp.ret ⟨.inr rfl, [.agg (dW ws)], ⟨resCell h2 ti44 (e := 44) ?_ rfl ?_, trivial⟩, by rw [hws]; rfl, ?_⟩
    · rw [push_sel, sel_ne (by simp only [TS.push_n]; omega), push_sel, sel_eq rfl, splL_all (by rw [hwl]; rfl)]
    · rw [dW_len]; exact hwl
    · exact (Keep.push S _).push' _
theorem c_hash_schedule {S : TS} {g : Tag} {p : List (BitVec 8)} {K : TV → TS → Prop} (h : K (.agg (dW (sched p 64))) S) (hp : p.length = 64 := by omega) : TCall env 20 [.sl g 1 (dB p)] S K :=
  (TCall.pure (c_hash_schedule_ok S g p hp) (ren_dW _ _ _)).mono fun t S' ⟨h1, h2⟩ => by rw [h1, h2]; exact h
end Go.Proofs.YteafcknljhglkaaDoor
