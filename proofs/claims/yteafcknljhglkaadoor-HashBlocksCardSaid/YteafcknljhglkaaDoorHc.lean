/-
  What the functions of the hash do: a state, by a block.
-/
import Derived.Test.YteafcknljhglkaaDoorHb
set_option linter.unusedVariables false
set_option linter.unusedSimpArgs false
namespace Go.Proofs.YteafcknljhglkaaDoor
open Go.RowKit TL

def turnStep (w : List (BitVec 32)) (i : Nat) (s : List (BitVec 32)) : List (BitVec 32) :=
  let e := rot (s.getD 4 0) (-6) ^^^ rot (s.getD 4 0) (-11) ^^^ rot (s.getD 4 0) (-25)
  let choice := (s.getD 4 0 &&& s.getD 5 0) ^^^ (~~~ s.getD 4 0 &&& s.getD 6 0)
  let x := s.getD 7 0 + e + choice + kW.getD i 0 + w.getD i 0
  let a := rot (s.getD 0 0) (-2) ^^^ rot (s.getD 0 0) (-13) ^^^ rot (s.getD 0 0) (-22)
  let most := (s.getD 0 0 &&& s.getD 1 0) ^^^ (s.getD 0 0 &&& s.getD 2 0) ^^^ (s.getD 1 0 &&& s.getD 2 0)
  ((splL s 1 (s.take 7)).set 4 ((splL s 1 (s.take 7)).getD 4 0 + x)).set 0 (x + a + most)
def turnUpto (p : List (BitVec 8)) (h : List (BitVec 32)) : Nat → List (BitVec 32)
  | 0 => h
  | i + 1 => turnStep (sched p 64) i (turnUpto p h i)
def addUpto (h s : List (BitVec 32)) : Nat → List (BitVec 32)
  | 0 => h
  | i + 1 => (addUpto h s i).set i ((addUpto h s i).getD i 0 + s.getD i 0)
def turn (h : List (BitVec 32)) (p : List (BitVec 8)) : List (BitVec 32) := addUpto h (turnUpto p h 64) 8
theorem turnUpto_len (p : List (BitVec 8)) (h : List (BitVec 32)) (hh : h.length = 8) : ∀ i, (turnUpto p h i).length = 8
  | 0 => hh
  | i + 1 => by simp [turnUpto, turnStep, splL_len, turnUpto_len p h hh i]
theorem addUpto_len (h s : List (BitVec 32)) (hh : h.length = 8) : ∀ i, (addUpto h s i).length = 8
  | 0 => hh
  | i + 1 => by simp [addUpto, addUpto_len h s hh i]

set_option maxRecDepth 8000 in
set_option maxHeartbeats 1000000 in
theorem c_hash_turn_ok (S : TS) (g : Tag) (h : List (BitVec 32)) (p : List (BitVec 8)) (hh : h.length = 8) (hp : p.length = 64) : TCall env 17 [.agg (dW h), .sl g 1 (dB p)] S fun r S' => r = .agg (dW (turn h p)) ∧ Keep S S' := by
  have hz8 := z8_len
  refine TCall.of 112 [.cell 4 37] Tryd.func17 rfl rfl rfl rfl (by kernel_rfl) rfl ?_
  refine TWp.sr fun K0 hK0 => ?_
  simp (disch := omega) only [seval, go_sem]
  repeat (refine ⟨by omega, ?_⟩)
  refine hK0 _ _ ?_; try (clear hK0; clear K0)
  refine TWp.sr fun K1 hK1 => ?_
  simp (disch := omega) only [seval, go_sem]
  repeat (refine ⟨by omega, ?_⟩)
  refine hK1 _ _ ?_; try (clear hK1; clear K1)
  refine TWp.seq_k fun K2 hK2 => ?_
  refine TWp.sr fun K3 hK3 => ?_
  simp (disch := omega) only [seval, go_sem]
  repeat (refine ⟨by omega, ?_⟩)
  refine c_hash_schedule ?_
  simp (disch := omega) only [seval, go_sem]
  repeat (refine ⟨by omega, ?_⟩)
  refine hK3 _ _ ?_; try (clear hK3; clear K3)
  refine TWp.block ?_
  refine TWp.loop (fun n T S' => ∃ i s, n + i = 64 ∧ s = turnUpto p h i ∧ s.length = 8 ∧ T 2 = .ptr S.n 0 ∧ T 4 = .ptr (S.n + 1) 0 ∧ T 5 = .ptr (S.n + 2) 0 ∧ T 16 = .agg (dW (sched p 64)) ∧ T 17 = .lit (.int .i64 (i : Int)) ∧ S' = ((S.push (.cells 37 (dW h))).push (.cells 37 (dW z8))).push (.cells 37 (dW s))) (64) ?_ ?_
  · exact ⟨0, _, rfl, rfl, hh, rfl, rfl, rfl, rfl, rfl, rfl⟩
  rintro n T S' ⟨i, s, hm, hs, hsl, h2, h4, h5, h16, h17, rfl⟩
  have hwl := sched_len p 64
  have hkl := kW_len
  have hsp := splL_len (s.take 7) s 1
  refine TWp.sr fun K4 hK4 => ?_
  simp (disch := omega) only [seval, go_sem, h2, h4, h5, h16, h17]
  repeat (refine ⟨by omega, ?_⟩)
  refine hK4 _ _ ?_; try (clear hK4; clear K4)
  refine TWp.seq_k fun K5 hK5 => ?_
  refine TWp.cond rfl (fun hb => ?_) (fun hb => ?_)
  · try (replace hb := of_decide_eq_true hb)
    refine TWp.skip ?_
    refine hK5 _ _ ?_; try (clear hK5; clear K5)
    refine TWp.seq_k fun K6 hK6 => ?_
    refine TWp.block ?_
    refine TWp.sr fun K7 hK7 => ?_
    simp (disch := omega) only [seval, go_sem, h2, h4, h5, h16, h17]
    repeat (refine ⟨by omega, ?_⟩)
    refine hK7 _ _ ?_; try (clear hK7; clear K7)
    refine TWp.sd [(0, 0), (1, 0), (3, 0), (4, 0), (7, 0), (8, 0), (2, 1), (5, 1), (6, 0), (9, 1), (10, 0), (11, 0)] follows (by kernel_rfl) fun K8 hK8 => ?_
    simp (disch := omega) only [seval, go_sem, h2, h4, h5, h16, h17]
    repeat (refine ⟨by omega, ?_⟩)
    refine c_bits_RotateLeft32 ?_
    simp (disch := omega) only [seval, go_sem, h2, h4, h5, h16, h17]
    repeat (refine ⟨by omega, ?_⟩)
    refine c_bits_RotateLeft32 ?_
    simp (disch := omega) only [seval, go_sem, h2, h4, h5, h16, h17]
    repeat (refine ⟨by omega, ?_⟩)
    refine c_bits_RotateLeft32 ?_
    simp (disch := omega) only [seval, go_sem, h2, h4, h5, h16, h17]
    repeat (refine ⟨by omega, ?_⟩)
    refine hK8 _ _ ?_; try (clear hK8; clear K8)
    refine TWp.sr fun K9 hK9 => ?_
    simp (disch := omega) only [seval, go_sem, h2, h4, h5, h16, h17]
    repeat (refine ⟨by omega, ?_⟩)
    refine hK9 _ _ ?_; try (clear hK9; clear K9)
    refine TWp.sd [(0, 0), (1, 0), (2, 0), (3, 0), (4, 0), (5, 0), (6, 0), (7, 0), (8, 0), (9, 0), (10, 0), (11, 0), (12, 0)] follows (by kernel_rfl) fun K10 hK10 => ?_
    simp (disch := omega) only [seval, go_sem, h2, h4, h5, h16, h17]
    repeat (refine ⟨by omega, ?_⟩)
    refine hK10 _ _ ?_; try (clear hK10; clear K10)
    refine TWp.sd [(0, 0), (1, 0), (3, 0), (4, 0), (7, 0), (8, 0), (2, 1), (5, 1), (6, 0), (9, 1), (10, 0), (11, 0)] follows (by kernel_rfl) fun K11 hK11 => ?_
    simp (disch := omega) only [seval, go_sem, h2, h4, h5, h16, h17]
    repeat (refine ⟨by omega, ?_⟩)
    refine c_bits_RotateLeft32 ?_
    simp (disch := omega) only [seval, go_sem, h2, h4, h5, h16, h17]
    repeat (refine ⟨by omega, ?_⟩)
    refine c_bits_RotateLeft32 ?_
    simp (disch := omega) only [seval, go_sem, h2, h4, h5, h16, h17]
    repeat (refine ⟨by omega, ?_⟩)
    refine c_bits_RotateLeft32 ?_
    simp (disch := omega) only [seval, go_sem, h2, h4, h5, h16, h17]
    repeat (refine ⟨by omega, ?_⟩)
    refine hK11 _ _ ?_; try (clear hK11; clear K11)
    refine TWp.sr fun K12 hK12 => ?_
    simp (disch := omega) only [seval, go_sem, h2, h4, h5, h16, h17]
    repeat (refine ⟨by omega, ?_⟩)
    refine hK12 _ _ ?_; try (clear hK12; clear K12)
    refine TWp.sd [(0, 0), (1, 0), (2, 2)] follows (by kernel_rfl) fun K13 hK13 => ?_
    simp (disch := omega) only [seval, go_sem, h2, h4, h5, h16, h17]
    repeat (refine ⟨by omega, ?_⟩)
    refine hK13 _ _ ?_; try (clear hK13; clear K13)
    refine TWp.sr fun K14 hK14 => ?_
    simp (disch := omega) only [seval, go_sem, h2, h4, h5, h16, h17]
    repeat (refine ⟨by omega, ?_⟩)
    refine hK14 _ _ ?_; try (clear hK14; clear K14)
    refine TWp.rk fun K15 hK15 => ?_
    simp (disch := omega) only [seval, go_sem, h2, h4, h5, h16, h17]
    repeat (refine ⟨by omega, ?_⟩)
    refine hK15 _ _ ?_; try (clear hK15; clear K15)
    refine hK6 _ _ ?_; try (clear hK6; clear K6)
    refine TWp.rk fun K16 hK16 => ?_
    simp (disch := omega) only [seval, go_sem, h2, h4, h5, h16, h17]
    repeat (refine ⟨by omega, ?_⟩)
    refine hK16 _ _ ?_; try (clear hK16; clear K16)
    subst hs
    refine ⟨n - 1, by omega, i + 1, _, by omega, rfl, turnUpto_len p h hh (i + 1), h2, h4, h5, h16, rfl, ?_⟩
    rfl
  · try (replace hb := of_decide_eq_false hb)
    refine TWp.exit ?_
    refine hK2 _ _ ?_; try (clear hK2; clear K2)
    refine TWp.seq_k fun K17 hK17 => ?_
    refine TWp.sr fun K18 hK18 => ?_
    simp (disch := omega) only [seval, go_sem, h2, h4, h5, h16, h17]
    repeat (refine ⟨by omega, ?_⟩)
    refine hK18 _ _ ?_; try (clear hK18; clear K18)
    refine TWp.block ?_
    refine TWp.loop (fun n T S' => ∃ i hs, n + i = 8 ∧ hs = addUpto h s i ∧ hs.length = 8 ∧ T 2 = .ptr S.n 0 ∧ T 4 = .ptr (S.n + 1) 0 ∧ T 5 = .ptr (S.n + 2) 0 ∧ T 99 = .lit (.int .i64 (i : Int)) ∧ S' = ((S.push (.cells 37 (dW hs))).push (.cells 37 (dW z8))).push (.cells 37 (dW s))) (8) ?_ ?_
    · exact ⟨0, _, rfl, rfl, hh, h2, h4, h5, rfl, rfl⟩
    rintro n T S' ⟨i2, hs2, hm2, hhs, hsl2, h2, h4, h5, h99, rfl⟩
    refine TWp.sr fun K19 hK19 => ?_
    simp (disch := omega) only [seval, go_sem, h2, h4, h5, h99]
    repeat (refine ⟨by omega, ?_⟩)
    refine hK19 _ _ ?_; try (clear hK19; clear K19)
    refine TWp.seq_k fun K20 hK20 => ?_
    refine TWp.cond rfl (fun hb => ?_) (fun hb => ?_)
    · try (replace hb := of_decide_eq_true hb)
      refine TWp.skip ?_
      refine hK20 _ _ ?_; try (clear hK20; clear K20)
      refine TWp.seq_k fun K21 hK21 => ?_
      refine TWp.block ?_
      refine TWp.sr fun K22 hK22 => ?_
      simp (disch := omega) only [seval, go_sem, h2, h4, h5, h99]
      repeat (refine ⟨by omega, ?_⟩)
      refine hK22 _ _ ?_; try (clear hK22; clear K22)
      refine TWp.dk [(0, 0), (1, 0), (2, 0), (3, 0), (4, 0), (5, 0), (6, 0), (7, 0), (8, 2)] follows (by kernel_rfl) fun K23 hK23 => ?_
      simp (disch := omega) only [seval, go_sem, h2, h4, h5, h99]
      repeat (refine ⟨by omega, ?_⟩)
      refine hK23 _ _ ?_; try (clear hK23; clear K23)
      refine hK21 _ _ ?_; try (clear hK21; clear K21)
      refine TWp.rk fun K24 hK24 => ?_
      simp (disch := omega) only [seval, go_sem, h2, h4, h5, h99]
      repeat (refine ⟨by omega, ?_⟩)
      refine hK24 _ _ ?_; try (clear hK24; clear K24)
      subst hhs
      refine ⟨n - 1, by omega, i2 + 1, _, by omega, rfl, addUpto_len h s hh (i2 + 1), h2, h4, h5, rfl, ?_⟩
      rfl
    · try (replace hb := of_decide_eq_false hb)
      refine TWp.exit ?_
      refine hK17 _ _ ?_; try (clear hK17; clear K17)
      refine TWp.sr fun K25 hK25 => ?_
      simp (disch := omega) only [seval, go_sem, h2, h4, h5, h99]
      repeat (refine ⟨by omega, ?_⟩)
      refine hK25 _ _ ?_; try (clear hK25; clear K25)
      have hi2 : i2 = 8 := by omega
      have hi : i = 64 := by omega
      subst hi2 hi
      refine TWp.ret ⟨.inr rfl, [.agg (dW hs2)], ⟨resCell h4 ti37 (e := 37) ?_ rfl ?_, trivial⟩, by rw [hhs, hs]; rfl, ?_⟩
      · rw [push_sel, sel_ne (by simp only [TS.push_n]; omega), push_sel, sel_eq (by simp only [TS.push_n])]
      · rw [dW_len]; exact hsl2
      · exact ((Keep.push S _).push' _).push' _

theorem c_hash_turn {S : TS} {g : Tag} {h : List (BitVec 32)} {p : List (BitVec 8)} {K : TV → TS → Prop} (hK : K (.agg (dW (turn h p))) S) (hh : h.length = 8 := by omega) (hp : p.length = 64 := by omega) : TCall env 17 [.agg (dW h), .sl g 1 (dB p)] S K :=
  (TCall.pure (c_hash_turn_ok S g h p hh hp) (ren_dW _ _ _)).mono fun t S' ⟨h1, h2⟩ => by rw [h1, h2]; exact hK
theorem c_hash_padded {S : TS} {g : Tag} {p : List (BitVec 8)} {K : TV → TS → Prop} (hK : K (.sl (.own S.n) 1 (dB (padding p))) (S.push .lin)) (hp : p.length ≤ 1000000 := by omega) : TCall env 16 [.sl g 1 (dB p)] S K :=
  (padded_ok S g p hp).row.mono fun t S' ⟨h1, h2⟩ => by rw [h1, h2]; exact hK

end Go.Proofs.YteafcknljhglkaaDoor
