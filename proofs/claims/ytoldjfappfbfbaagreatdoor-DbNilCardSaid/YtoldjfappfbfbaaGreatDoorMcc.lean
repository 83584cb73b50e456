/-
  Lemmas of the claim, part 3: Hb Hc Hd He Hf Hg Hh Ht Hs Hi Na Nb Nc Nd Ne Nf Ng Nh Ni Nj TlY TlZ TlZa.
-/
import Derived.Test.YtoldjfappfbfbaaGreatDoorMcb
import Derived.Laws.Externs
import Derived.Sort.Grow
set_option linter.unusedVariables false
set_option linter.unusedSimpArgs false
namespace Go.Proofs.YtoldjfappfbfbaaGreatDoor
open Go.RowKit TL
theorem follows : env.P.follows .mixedOrders = true := by kernel_rfl
def wordAt (p : List (BitVec 8)) (i : Nat) : BitVec 32 :=
  (BitVec.setWidth 32 (p.getD i 0)) <<< 24 ||| (BitVec.setWidth 32 (p.getD (i + 1) 0)) <<< 16 ||| (BitVec.setWidth 32 (p.getD (i + 2) 0)) <<< 8 ||| (BitVec.setWidth 32 (p.getD (i + 3) 0))
def low (a : BitVec 32) : BitVec 32 := rot a (-7) ^^^ rot a (-18) ^^^ a >>> 3
def high (b : BitVec 32) : BitVec 32 := rot b (-17) ^^^ rot b (-19) ^^^ b >>> 10
def wordStep (p : List (BitVec 8)) (i : Nat) (w : List (BitVec 32)) : BitVec 32 :=
  if i < 16 then wordAt p (4 * i) else w.getD (i - 16) 0 + low (w.getD (i - 15) 0) + w.getD (i - 7) 0 + high (w.getD (i - 2) 0)
def sched (p : List (BitVec 8)) : Nat → List (BitVec 32)
  | 0 => z64
  | i + 1 => (sched p i).set i (wordStep p i (sched p i))
theorem sched_len (p : List (BitVec 8)) : ∀ i, (sched p i).length = 64
  | 0 => rfl
  | i + 1 => by simp [sched, sched_len p i]
theorem c_bits_RotateLeft32 {S : TS} {x : BitVec 32} {k : Int} {K : TV → TS → Prop} (h : K (.lit (w32 (rot x k))) S) : TCall env 211 [.lit (w32 x), .lit (.int .i64 k)] S K :=
  (rot_ok S x k).mono fun t S' ⟨h1, h2⟩ => by rw [h1, h2]; exact h
set_option maxRecDepth 8000 in
theorem c_hash_schedule_ok (S : TS) (g : Tag) (p : List (BitVec 8)) (hp : p.length = 64) : TCall env 210 [.sl g 1 (dB p)] S fun r S' => r = .agg (dW (sched p 64)) ∧ Keep S S' := by
  refine TCall.of 90 [.cell 2 265] Tryz.func210 rfl rfl rfl rfl (by kernel_rfl) rfl ?_
  refine TWp.sr fun K0 hK0 => ?_
  simp (disch := omega) only [seval, go_sem]
  repeat (refine ⟨by omega, ?_⟩)
  refine hK0 _ _ ?_; try (clear hK0; clear K0)
  refine TWp.sr fun K1 hK1 => ?_
  simp (disch := omega) only [seval, go_sem]
  repeat (refine ⟨by omega, ?_⟩)
  refine hK1 _ _ ?_; try (clear hK1; clear K1)
  refine TWp.seq_k fun K2 hK2 => ?_
  refine TWp.sr fun K3 hK3 => ?_
  simp (disch := omega) only [seval, go_sem]
  repeat (refine ⟨by omega, ?_⟩)
  refine hK3 _ _ ?_; try (clear hK3; clear K3)
  refine TWp.block ?_
  refine TWp.loop (fun n T S' => ∃ i ws, n + i = 64 ∧ ws = sched p i ∧ ws.length = 64 ∧ T 0 = .sl g 1 (dB p) ∧ T 2 = .ptr S.n 0 ∧ T 3 = .ptr (S.n + 1) 0 ∧ T 9 = .lit (.int .i64 (i : Int)) ∧ S' = ((S.push (.cells 265 (dW z64))).push (.cells 265 (dW ws)))) 64 ?_ ?_
  · exact ⟨0, _, rfl, rfl, rfl, rfl, rfl, rfl, rfl, rfl⟩
  rintro n T S' ⟨i, ws, hm, hws, hwl, h0, h2, h3, h9, rfl⟩
  refine TWp.sr fun K4 hK4 => ?_
  simp (disch := omega) only [seval, go_sem, h0, h2, h3, h9]
  repeat (refine ⟨by omega, ?_⟩)
  refine hK4 _ _ ?_; try (clear hK4; clear K4)
  refine TWp.seq_k fun K5 hK5 => ?_
  refine TWp.cond rfl (fun hb => ?_) (fun hb => ?_)
  · try (replace hb := of_decide_eq_true hb)
    refine TWp.skip ?_
    refine hK5 _ _ ?_; try (clear hK5; clear K5)
    refine TWp.seq_k fun K6 hK6 => ?_
    refine TWp.block ?_
    refine TWp.sr fun K7 hK7 => ?_
    simp (disch := omega) only [seval, go_sem, h0, h2, h3, h9]
    repeat (refine ⟨by omega, ?_⟩)
    refine hK7 _ _ ?_; try (clear hK7; clear K7)
    refine TWp.seq_k fun K8 hK8 => ?_
    refine TWp.sr fun K9 hK9 => ?_
    simp (disch := omega) only [seval, go_sem, h0, h2, h3, h9]
    repeat (refine ⟨by omega, ?_⟩)
    refine hK9 _ _ ?_; try (clear hK9; clear K9)
    refine TWp.cond rfl (fun hb => ?_) (fun hb => ?_)
    · try (replace hb := of_decide_eq_true hb)
      refine TWp.sd [(0, 0), (1, 0), (2, 0), (3, 0), (4, 0), (5, 0), (6, 0), (7, 0), (8, 0), (9, 0), (10, 0), (11, 0), (12, 0), (13, 0), (14, 0), (15, 0), (16, 0), (17, 0), (18, 0), (19, 0), (20, 0), (21, 0), (22, 0), (23, 0), (24, 0), (25, 0), (26, 0), (27, 0), (28, 0), (29, 0), (30, 0), (31, 0), (32, 0), (33, 0), (34, 0), (35, 2)] follows (by kernel_rfl) fun K10 hK10 => ?_
      simp (disch := omega) only [seval, go_sem, h0, h2, h3, h9]
      repeat (refine ⟨by omega, ?_⟩)
      refine hK10 _ _ ?_; try (clear hK10; clear K10)
      refine TWp.exit ?_
      refine hK6 _ _ ?_; try (clear hK6; clear K6)
      refine TWp.rk fun K11 hK11 => ?_
      simp (disch := omega) only [seval, go_sem, h0, h2, h3, h9]
      repeat (refine ⟨by omega, ?_⟩)
      refine hK11 _ _ ?_; try (clear hK11; clear K11)
      subst hws
      refine ⟨n - 1, by omega, i + 1, _, by omega, rfl, sched_len p (i + 1), h0, h2, h3, rfl, ?_⟩
      rw [sched, wordStep, if_pos (by omega)]
      rfl
    · try (replace hb := of_decide_eq_false hb)
      refine TWp.skip ?_
      refine hK8 _ _ ?_; try (clear hK8; clear K8)
      refine TWp.sd [(0, 0), (1, 0), (2, 0), (3, 0), (4, 0), (5, 0), (6, 0), (7, 0), (8, 0), (9, 0)] follows (by kernel_rfl) fun K12 hK12 => ?_
      simp (disch := omega) only [seval, go_sem, h0, h2, h3, h9]
      repeat (refine ⟨by omega, ?_⟩)
      refine hK12 _ _ ?_; try (clear hK12; clear K12)
      refine TWp.sr fun K13 hK13 => ?_
      simp (disch := omega) only [seval, go_sem, h0, h2, h3, h9]
      refine c_bits_RotateLeft32 ?_
      simp (disch := omega) only [seval, go_sem, h0, h2, h3, h9]
      refine c_bits_RotateLeft32 ?_
      simp (disch := omega) only [seval, go_sem, h0, h2, h3, h9]
      repeat (refine ⟨by omega, ?_⟩)
      refine hK13 _ _ ?_; try (clear hK13; clear K13)
      refine TWp.sr fun K14 hK14 => ?_
      simp (disch := omega) only [seval, go_sem, h0, h2, h3, h9]
      refine c_bits_RotateLeft32 ?_
      simp (disch := omega) only [seval, go_sem, h0, h2, h3, h9]
      refine c_bits_RotateLeft32 ?_
      simp (disch := omega) only [seval, go_sem, h0, h2, h3, h9]
      repeat (refine ⟨by omega, ?_⟩)
      refine hK14 _ _ ?_; try (clear hK14; clear K14)
      refine TWp.dk [(0, 0), (1, 0), (2, 0), (3, 0), (4, 0), (5, 0), (6, 0), (7, 0), (8, 0), (9, 0), (10, 0), (11, 0), (12, 0), (13, 0), (14, 0), (15, 2)] follows (by kernel_rfl) fun K15 hK15 => ?_
      simp (disch := omega) only [seval, go_sem, h0, h2, h3, h9]
      repeat (refine ⟨by omega, ?_⟩)
      refine hK15 _ _ ?_; try (clear hK15; clear K15)
      refine hK6 _ _ ?_; try (clear hK6; clear K6)
      refine TWp.rk fun K16 hK16 => ?_
      simp (disch := omega) only [seval, go_sem, h0, h2, h3, h9]
      repeat (refine ⟨by omega, ?_⟩)
      refine hK16 _ _ ?_; try (clear hK16; clear K16)
      subst hws
      refine ⟨n - 1, by omega, i + 1, _, by omega, rfl, sched_len p (i + 1), h0, h2, h3, rfl, ?_⟩
      rw [sched, wordStep, if_neg (by omega)]
      rfl
  · try (replace hb := of_decide_eq_false hb)
    refine TWp.exit ?_
    refine hK2 _ _ ?_; try (clear hK2; clear K2)
    refine TWp.sr fun K17 hK17 => ?_
    simp (disch := omega) only [seval, go_sem, h0, h2, h3, h9]
    repeat (refine ⟨by omega, ?_⟩)
    refine hK17 _ _ ?_; try (clear hK17; clear K17)
    have hi : i = 64 := by omega
    subst hi
    refine TWp.ret ⟨.inr rfl, [.agg (dW ws)], ⟨resCell h2 ti265 (e := 265) ?_ rfl ?_, trivial⟩, by rw [hws]; rfl, ?_⟩
    · rw [push_sel, sel_ne (by simp only [TS.push_n]; omega), push_sel, sel_eq rfl, splL_all (by rw [hwl]; rfl)]
    · rw [dW_len]; exact hwl
    · exact (Keep.push S _).push' _
theorem c_hash_schedule {S : TS} {g : Tag} {p : List (BitVec 8)} {K : TV → TS → Prop} (h : K (.agg (dW (sched p 64))) S) (hp : p.length = 64 := by omega) : TCall env 210 [.sl g 1 (dB p)] S K :=
  (TCall.pure (c_hash_schedule_ok S g p hp) (ren_dW _ _ _)).mono fun t S' ⟨h1, h2⟩ => by rw [h1, h2]; exact h
end Go.Proofs.YtoldjfappfbfbaaGreatDoor
namespace Go.Proofs.YtoldjfappfbfbaaGreatDoor
open Go.RowKit TL
def turnStep (w : List (BitVec 32)) (i : Nat) (s : List (BitVec 32)) : List (BitVec 32) :=
  let e := rot (s.getD 4 0) (-6) ^^^ rot (s.getD 4 0) (-11) ^^^ rot (s.getD 4 0) (-25)
  let choice := (s.getD 4 0 &&& s.getD 5 0) ^^^ (~~~ s.getD 4 0 &&& s.getD 6 0)
  let x := s.getD 7 0 + e + choice + kW.getD i 0 + w.getD i 0
  let a := rot (s.getD 0 0) (-2) ^^^ rot (s.getD 0 0) (-13) ^^^ rot (s.getD 0 0) (-22)
  let most := (s.getD 0 0 &&& s.getD 1 0) ^^^ (s.getD 0 0 &&& s.getD 2 0) ^^^ (s.getD 1 0 &&& s.getD 2 0)
  ((splL s 1 (s.take 7)).set 4 ((splL s 1 (s.take 7)).getD 4 0 + x)).set 0 (x + a + most)
def turnUpto (p : List (BitVec 8)) (h : List (BitVec 32)) : Nat → List (BitVec 32)
  | 0 => h
  | i + 1 => turnStep (sched p 64) i (turnUpto p h i)
def addUpto (h s : List (BitVec 32)) : Nat → List (BitVec 32)
  | 0 => h
  | i + 1 => (addUpto h s i).set i ((addUpto h s i).getD i 0 + s.getD i 0)
def turn (h : List (BitVec 32)) (p : List (BitVec 8)) : List (BitVec 32) := addUpto h (turnUpto p h 64) 8
theorem turnUpto_len (p : List (BitVec 8)) (h : List (BitVec 32)) (hh : h.length = 8) : ∀ i, (turnUpto p h i).length = 8
  | 0 => hh
  | i + 1 => by simp [turnUpto, turnStep, splL_len, turnUpto_len p h hh i]
theorem addUpto_len (h s : List (BitVec 32)) (hh : h.length = 8) : ∀ i, (addUpto h s i).length = 8
  | 0 => hh
  | i + 1 => by simp [addUpto, addUpto_len h s hh i]
set_option maxRecDepth 8000 in
set_option maxHeartbeats 1000000 in
theorem c_hash_turn_ok (S : TS) (g : Tag) (h : List (BitVec 32)) (p : List (BitVec 8)) (hh : h.length = 8) (hp : p.length = 64) : TCall env 180 [.agg (dW h), .sl g 1 (dB p)] S fun r S' => r = .agg (dW (turn h p)) ∧ Keep S S' := by
  have hz8 := z8_len
  refine TCall.of 112 [.cell 4 235] Tryz.func180 rfl rfl rfl rfl (by kernel_rfl) rfl ?_
  refine TWp.sr fun K0 hK0 => ?_
  simp (disch := omega) only [seval, go_sem]
  repeat (refine ⟨by omega, ?_⟩)
  refine hK0 _ _ ?_; try (clear hK0; clear K0)
  refine TWp.sr fun K1 hK1 => ?_
  simp (disch := omega) only [seval, go_sem]
  repeat (refine ⟨by omega, ?_⟩)
  refine hK1 _ _ ?_; try (clear hK1; clear K1)
  refine TWp.seq_k fun K2 hK2 => ?_
  refine TWp.sr fun K3 hK3 => ?_
  simp (disch := omega) only [seval, go_sem]
  repeat (refine ⟨by omega, ?_⟩)
  refine c_hash_schedule ?_
  simp (disch := omega) only [seval, go_sem]
  repeat (refine ⟨by omega, ?_⟩)
  refine hK3 _ _ ?_; try (clear hK3; clear K3)
  refine TWp.block ?_
  refine TWp.loop (fun n T S' => ∃ i s, n + i = 64 ∧ s = turnUpto p h i ∧ s.length = 8 ∧ T 2 = .ptr S.n 0 ∧ T 4 = .ptr (S.n + 1) 0 ∧ T 5 = .ptr (S.n + 2) 0 ∧ T 16 = .agg (dW (sched p 64)) ∧ T 17 = .lit (.int .i64 (i : Int)) ∧ S' = ((S.push (.cells 235 (dW h))).push (.cells 235 (dW z8))).push (.cells 235 (dW s))) (64) ?_ ?_
  · exact ⟨0, _, rfl, rfl, hh, rfl, rfl, rfl, rfl, rfl, rfl⟩
  rintro n T S' ⟨i, s, hm, hs, hsl, h2, h4, h5, h16, h17, rfl⟩
  have hwl := sched_len p 64
  have hkl := kW_len
  have hsp := splL_len (s.take 7) s 1
  refine TWp.sr fun K4 hK4 => ?_
  simp (disch := omega) only [seval, go_sem, h2, h4, h5, h16, h17]
  repeat (refine ⟨by omega, ?_⟩)
  refine hK4 _ _ ?_; try (clear hK4; clear K4)
  refine TWp.seq_k fun K5 hK5 => ?_
  refine TWp.cond rfl (fun hb => ?_) (fun hb => ?_)
  · try (replace hb := of_decide_eq_true hb)
    refine TWp.skip ?_
    refine hK5 _ _ ?_; try (clear hK5; clear K5)
    refine TWp.seq_k fun K6 hK6 => ?_
    refine TWp.block ?_
    refine TWp.sr fun K7 hK7 => ?_
    simp (disch := omega) only [seval, go_sem, h2, h4, h5, h16, h17]
    repeat (refine ⟨by omega, ?_⟩)
    refine hK7 _ _ ?_; try (clear hK7; clear K7)
    refine TWp.sd [(0, 0), (1, 0), (3, 0), (4, 0), (7, 0), (8, 0), (2, 1), (5, 1), (6, 0), (9, 1), (10, 0), (11, 0)] follows (by kernel_rfl) fun K8 hK8 => ?_
    simp (disch := omega) only [seval, go_sem, h2, h4, h5, h16, h17]
    repeat (refine ⟨by omega, ?_⟩)
    refine c_bits_RotateLeft32 ?_
    simp (disch := omega) only [seval, go_sem, h2, h4, h5, h16, h17]
    repeat (refine ⟨by omega, ?_⟩)
    refine c_bits_RotateLeft32 ?_
    simp (disch := omega) only [seval, go_sem, h2, h4, h5, h16, h17]
    repeat (refine ⟨by omega, ?_⟩)
    refine c_bits_RotateLeft32 ?_
    simp (disch := omega) only [seval, go_sem, h2, h4, h5, h16, h17]
    repeat (refine ⟨by omega, ?_⟩)
    refine hK8 _ _ ?_; try (clear hK8; clear K8)
    refine TWp.sr fun K9 hK9 => ?_
    simp (disch := omega) only [seval, go_sem, h2, h4, h5, h16, h17]
    repeat (refine ⟨by omega, ?_⟩)
    refine hK9 _ _ ?_; try (clear hK9; clear K9)
    refine TWp.sd [(0, 0), (1, 0), (2, 0), (3, 0), (4, 0), (5, 0), (6, 0), (7, 0), (8, 0), (9, 0), (10, 0), (11, 0), (12, 0)] follows (by kernel_rfl) fun K10 hK10 => ?_
    simp (disch := omega) only [seval, go_sem, h2, h4, h5, h16, h17]
    repeat (refine ⟨by omega, ?_⟩)
    refine hK10 _ _ ?_; try (clear hK10; clear K10)
    refine TWp.sd [(0, 0), (1, 0), (3, 0), (4, 0), (7, 0), (8, 0), (2, 1), (5, 1), (6, 0), (9, 1), (10, 0), (11, 0)] follows (by kernel_rfl) fun K11 hK11 => ?_
    simp (disch := omega) only [seval, go_sem, h2, h4, h5, h16, h17]
    repeat (refine ⟨by omega, ?_⟩)
    refine c_bits_RotateLeft32 ?_
    simp (disch := omega) only [seval, go_sem, h2, h4, h5, h16, h17]
    repeat (refine ⟨by omega, ?_⟩)
    refine c_bits_RotateLeft32 ?_
    simp (disch := omega) only [seval, go_sem, h2, h4, h5, h16, h17]
    repeat (refine ⟨by omega, ?_⟩)
    refine c_bits_RotateLeft32 ?_
    simp (disch := omega) only [seval, go_sem, h2, h4, h5, h16, h17]
    repeat (refine ⟨by omega, ?_⟩)
    refine hK11 _ _ ?_; try (clear hK11; clear K11)
    refine TWp.sr fun K12 hK12 => ?_
    simp (disch := omega) only [seval, go_sem, h2, h4, h5, h16, h17]
    repeat (refine ⟨by omega, ?_⟩)
    refine hK12 _ _ ?_; try (clear hK12; clear K12)
    refine TWp.sd [(0, 0), (1, 0), (2, 2)] follows (by kernel_rfl) fun K13 hK13 => ?_
    simp (disch := omega) only [seval, go_sem, h2, h4, h5, h16, h17]
    repeat (refine ⟨by omega, ?_⟩)
    refine hK13 _ _ ?_; try (clear hK13; clear K13)
    refine TWp.sr fun K14 hK14 => ?_
    simp (disch := omega) only [seval, go_sem, h2, h4, h5, h16, h17]
    repeat (refine ⟨by omega, ?_⟩)
    refine hK14 _ _ ?_; try (clear hK14; clear K14)
    refine TWp.rk fun K15 hK15 => ?_
    simp (disch := omega) only [seval, go_sem, h2, h4, h5, h16, h17]
    repeat (refine ⟨by omega, ?_⟩)
    refine hK15 _ _ ?_; try (clear hK15; clear K15)
    refine hK6 _ _ ?_; try (clear hK6; clear K6)
    refine TWp.rk fun K16 hK16 => ?_
    simp (disch := omega) only [seval, go_sem, h2, h4, h5, h16, h17]
    repeat (refine ⟨by omega, ?_⟩)
    refine hK16 _ _ ?_; try (clear hK16; clear K16)
    subst hs
    refine ⟨n - 1, by omega, i + 1, _, by omega, rfl, turnUpto_len p h hh (i + 1), h2, h4, h5, h16, rfl, ?_⟩
    rfl
  · try (replace hb := of_decide_eq_false hb)
    refine TWp.exit ?_
    refine hK2 _ _ ?_; try (clear hK2; clear K2)
    refine TWp.seq_k fun K17 hK17 => ?_
    refine TWp.sr fun K18 hK18 => ?_
    simp (disch := omega) only [seval, go_sem, h2, h4, h5, h16, h17]
    repeat (refine ⟨by omega, ?_⟩)
    refine hK18 _ _ ?_; try (clear hK18; clear K18)
    refine TWp.block ?_
    refine TWp.loop (fun n T S' => ∃ i hs, n + i = 8 ∧ hs = addUpto h s i ∧ hs.length = 8 ∧ T 2 = .ptr S.n 0 ∧ T 4 = .ptr (S.n + 1) 0 ∧ T 5 = .ptr (S.n + 2) 0 ∧ T 99 = .lit (.int .i64 (i : Int)) ∧ S' = ((S.push (.cells 235 (dW hs))).push (.cells 235 (dW z8))).push (.cells 235 (dW s))) (8) ?_ ?_
    · exact ⟨0, _, rfl, rfl, hh, h2, h4, h5, rfl, rfl⟩
    rintro n T S' ⟨i2, hs2, hm2, hhs, hsl2, h2, h4, h5, h99, rfl⟩
    refine TWp.sr fun K19 hK19 => ?_
    simp (disch := omega) only [seval, go_sem, h2, h4, h5, h99]
    repeat (refine ⟨by omega, ?_⟩)
    refine hK19 _ _ ?_; try (clear hK19; clear K19)
    refine TWp.seq_k fun K20 hK20 => ?_
    refine TWp.cond rfl (fun hb => ?_) (fun hb => ?_)
    · try (replace hb := of_decide_eq_true hb)
      refine TWp.skip ?_
      refine hK20 _ _ ?_; try (clear hK20; clear K20)
      refine TWp.seq_k fun K21 hK21 => ?_
      refine TWp.block ?_
      refine TWp.sr fun K22 hK22 => ?_
      simp (disch := omega) only [seval, go_sem, h2, h4, h5, h99]
      repeat (refine ⟨by omega, ?_⟩)
      refine hK22 _ _ ?_; try (clear hK22; clear K22)
      refine TWp.dk [(0, 0), (1, 0), (2, 0), (3, 0), (4, 0), (5, 0), (6, 0), (7, 0), (8, 2)] follows (by kernel_rfl) fun K23 hK23 => ?_
      simp (disch := omega) only [seval, go_sem, h2, h4, h5, h99]
      repeat (refine ⟨by omega, ?_⟩)
      refine hK23 _ _ ?_; try (clear hK23; clear K23)
      refine hK21 _ _ ?_; try (clear hK21; clear K21)
      refine TWp.rk fun K24 hK24 => ?_
      simp (disch := omega) only [seval, go_sem, h2, h4, h5, h99]
      repeat (refine ⟨by omega, ?_⟩)
      refine hK24 _ _ ?_; try (clear hK24; clear K24)
      subst hhs
      refine ⟨n - 1, by omega, i2 + 1, _, by omega, rfl, addUpto_len h s hh (i2 + 1), h2, h4, h5, rfl, ?_⟩
      rfl
    · try (replace hb := of_decide_eq_false hb)
      refine TWp.exit ?_
      refine hK17 _ _ ?_; try (clear hK17; clear K17)
      refine TWp.sr fun K25 hK25 => ?_
      simp (disch := omega) only [seval, go_sem, h2, h4, h5, h99]
      repeat (refine ⟨by omega, ?_⟩)
      refine hK25 _ _ ?_; try (clear hK25; clear K25)
      have hi2 : i2 = 8 := by omega
      have hi : i = 64 := by omega
      subst hi2 hi
      refine TWp.ret ⟨.inr rfl, [.agg (dW hs2)], ⟨resCell h4 ti235 (e := 235) ?_ rfl ?_, trivial⟩, by rw [hhs, hs]; rfl, ?_⟩
      · rw [push_sel, sel_ne (by simp only [TS.push_n]; omega), push_sel, sel_eq (by simp only [TS.push_n])]
      · rw [dW_len]; exact hsl2
      · exact ((Keep.push S _).push' _).push' _
theorem c_hash_turn {S : TS} {g : Tag} {h : List (BitVec 32)} {p : List (BitVec 8)} {K : TV → TS → Prop} (hK : K (.agg (dW (turn h p))) S) (hh : h.length = 8 := by omega) (hp : p.length = 64 := by omega) : TCall env 180 [.agg (dW h), .sl g 1 (dB p)] S K :=
  (TCall.pure (c_hash_turn_ok S g h p hh hp) (ren_dW _ _ _)).mono fun t S' ⟨h1, h2⟩ => by rw [h1, h2]; exact hK
theorem c_hash_padded {S : TS} {g : Tag} {p : List (BitVec 8)} {K : TV → TS → Prop} (hK : K (.sl (.own S.n) 1 (dB (padding p))) (S.push .lin)) (hp : p.length ≤ 1000000 := by omega) : TCall env 179 [.sl g 1 (dB p)] S K :=
  (padded_ok S g p hp).row.mono fun t S' ⟨h1, h2⟩ => by rw [h1, h2]; exact hK
end Go.Proofs.YtoldjfappfbfbaaGreatDoor
namespace Go.Proofs.YtoldjfappfbfbaaGreatDoor
open Go.RowKit TL
theorem turn_len (h : List (BitVec 32)) (p : List (BitVec 8)) (hh : h.length = 8) : (turn h p).length = 8 := addUpto_len _ _ hh 8
def sumN : Nat → List (BitVec 32) → List (BitVec 8) → List (BitVec 32)
  | 0, h, _ => h
  | n + 1, h, q => sumN n (turn h (q.take 64)) (q.drop 64)
def wordB (x : BitVec 32) : List (BitVec 8) := [(x >>> 24).setWidth 8, (x >>> 16).setWidth 8, (x >>> 8).setWidth 8, x.setWidth 8]
def wordsB (h : List (BitVec 32)) : List (BitVec 8) := h.flatMap wordB
theorem wordsB_len : ∀ (h : List (BitVec 32)), (wordsB h).length = 4 * h.length
  | [] => rfl
  | x :: h => by have := wordsB_len h; simp [wordsB, wordB] at this ⊢; omega
theorem wordsB_snoc (h : List (BitVec 32)) (i : Nat) (hi : i < h.length) : wordsB (h.take (i + 1)) = wordsB (h.take i) ++ wordB (h.getD i 0) := by
  rw [List.take_succ_eq_append_getElem hi, wordsB, List.flatMap_append]
  simp [wordsB, List.getD_eq_getElem?_getD, List.getElem?_eq_getElem hi]
theorem sumN_len : ∀ (n : Nat) (h : List (BitVec 32)) (q : List (BitVec 8)), h.length = 8 → (sumN n h q).length = 8
  | 0, h, _, hh => hh
  | n + 1, h, q, hh => sumN_len n _ _ (turn_len _ _ hh)
def sha (p : List (BitVec 8)) : List (BitVec 8) := wordsB (sumN ((padding p).length / 64) fW (padding p))
theorem lenBytes_len (x : BitVec 64) : ∀ n, (lenBytes x n).length = n
  | 0 => rfl
  | n + 1 => by simp [lenBytes, lenBytes_len x n]
theorem padding_len (p : List (BitVec 8)) : (padding p).length % 64 = 0 := by
  simp [padding, nought, lenBytes_len]; omega
theorem padding_max (p : List (BitVec 8)) : (padding p).length ≤ p.length + 200 := by
  simp [padding, nought, lenBytes_len]; omega
theorem sha_len (p : List (BitVec 8)) : (sha p).length = 32 := by rw [sha, wordsB_len, sumN_len _ _ _ fW_len]
set_option maxRecDepth 8000 in
set_option maxHeartbeats 1000000 in
theorem c_hash_Sum_ok (S : TS) (g : Tag) (p : List (BitVec 8)) (hp : p.length ≤ 1000000) : TCall env 148 [.sl g 1 (dB p)] S fun r S' => ∃ k, r = .vs k 0 1 32 ∧ S.n ≤ k ∧ S'.objs k = .cells 5 (cellsD (dB (sha p))) ∧ Keep S S' := by
  have hz8 := z8_len
  have hf8 := fW_len
  have hpl := padding_len p
  refine TCall.of 40 [.tmp 2] Tryz.func148 rfl rfl rfl rfl (by kernel_rfl) rfl ?_
  refine TWp.sr fun K0 hK0 => ?_
  simp -implicitDefEqProofs (disch := omega) only [seval, go_sem]
  repeat (refine ⟨by omega, ?_⟩)
  refine hK0 _ _ ?_; try (clear hK0; clear K0)
  refine TWp.sr fun K1 hK1 => ?_
  simp -implicitDefEqProofs (disch := omega) only [seval, go_sem]
  repeat (refine ⟨by omega, ?_⟩)
  refine hK1 _ _ ?_; try (clear hK1; clear K1)
  refine TWp.seq_k fun K2 hK2 => ?_
  refine TWp.sr fun K3 hK3 => ?_
  simp -implicitDefEqProofs (disch := omega) only [seval, go_sem]
  repeat (refine ⟨by omega, ?_⟩)
  refine c_hash_padded ?_
  simp -implicitDefEqProofs (disch := omega) only [seval, go_sem]
  repeat (refine ⟨by omega, ?_⟩)
  refine hK3 _ _ ?_; try (clear hK3; clear K3)
  refine TWp.block ?_
  refine TWp.loop (fun n T S' => ∃ h q g', q.length = 64 * n ∧ sumN n h q = sumN ((padding p).length / 64) fW (padding p) ∧ h.length = 8 ∧ T 3 = .ptr S.n 0 ∧ T 4 = .sl g' 1 (dB q) ∧ S' = (S.push (.cells 235 (dW h))).push .lin) ((padding p).length / 64) ?_ ?_
  · exact ⟨_, _, _, by omega, rfl, fW_len, rfl, rfl, rfl⟩
  rintro n T S' ⟨h, q, g', hq, hsum, hh, h3, h4, rfl⟩
  have htl := turn_len h (q.take 64) hh
  have hdl : (q.take 64).length = min 64 q.length := List.length_take
  refine TWp.seq_k fun K4 hK4 => ?_
  refine TWp.sr fun K5 hK5 => ?_
  simp -implicitDefEqProofs (disch := omega) only [seval, go_sem, h3, h4]
  repeat (refine ⟨by omega, ?_⟩)
  refine hK5 _ _ ?_; try (clear hK5; clear K5)
  refine TWp.cond_k fun K6 hK6 => ?_
  simp -implicitDefEqProofs (disch := omega) only [seval, go_sem, h3, h4]
  refine hK6 _ (fun hb => ?_) (fun hb => ?_) <;> clear hK6 <;> clear K6
  · try (replace hb := of_decide_eq_true hb)
    refine TWp.skip ?_
    refine hK4 _ _ ?_; try (clear hK4; clear K4)
    refine TWp.seq_k fun K7 hK7 => ?_
    refine TWp.block ?_
    refine TWp.dk [(0, 0), (1, 0), (2, 0), (3, 2), (4, 2)] follows (by kernel_rfl) fun K8 hK8 => ?_
    simp -implicitDefEqProofs (disch := omega) only [seval, go_sem, h3, h4]
    repeat (refine ⟨by omega, ?_⟩)
    refine c_hash_turn ?_
    simp -implicitDefEqProofs (disch := omega) only [seval, go_sem, h3, h4]
    repeat (refine ⟨by omega, ?_⟩)
    refine hK8 _ _ ?_; try (clear hK8; clear K8)
    refine hK7 _ _ ?_; try (clear hK7; clear K7)
    refine TWp.rk fun K9 hK9 => ?_
    simp -implicitDefEqProofs (disch := omega) only [seval, go_sem, h3, h4]
    repeat (refine ⟨by omega, ?_⟩)
    refine hK9 _ _ ?_; try (clear hK9; clear K9)
    obtain ⟨n', rfl⟩ : ∃ n', n = n' + 1 := ⟨n - 1, by omega⟩
    refine ⟨n', by omega, turn h (q.take 64), q.drop 64, g', by simp [hq]; omega, hsum, htl, h3, rfl, rfl⟩
  · try (replace hb := of_decide_eq_false hb)
    obtain rfl : n = 0 := by omega
    refine TWp.exit ?_
    refine hK2 _ _ ?_; try (clear hK2; clear K2)
    refine TWp.sr fun K10 hK10 => ?_
    simp -implicitDefEqProofs (disch := omega) only [seval, go_sem, h3, h4]
    repeat (refine ⟨by omega, ?_⟩)
    refine hK10 _ _ ?_; try (clear hK10; clear K10)
    refine TWp.seq_k fun K11 hK11 => ?_
    refine TWp.sr fun K12 hK12 => ?_
    simp -implicitDefEqProofs (disch := omega) only [seval, go_sem, h3, h4]
    repeat (refine ⟨by omega, ?_⟩)
    refine hK12 _ _ ?_; try (clear hK12; clear K12)
    refine TWp.block ?_
    refine TWp.asBuf 5 5 1 rfl ?_
    simp only [TS.push_n]
    refine TWp.loop (fun n T S' => ∃ i k, n + i = 8 ∧ T 20 = .agg (dW h) ∧ T 21 = .lit (.int .i64 (i : Int)) ∧ T 5 = .vs k 0 1 (4 * i) ∧ S'.objs k = .cells 5 (cellsD (dB (wordsB (h.take i)))) ∧ S.n ≤ k ∧ Keep S S') (8) ?_ ?_
    · exact ⟨0, _, rfl, rfl, rfl, rfl, push_self _ _, by omega, (((Keep.push S _).push' _).push' _)⟩
    rintro n T S' ⟨i, k, hm2, h20, h21, h5, ho, hk, hkeep⟩
    have hwl := wordsB_len (h.take i)
    have hil : (h.take i).length = min i h.length := List.length_take
    refine TWp.sr fun K13 hK13 => ?_
    simp -implicitDefEqProofs (disch := omega) only [seval, go_sem, h20, h21, h5, ho]
    repeat (refine ⟨by omega, ?_⟩)
    refine hK13 _ _ ?_; try (clear hK13; clear K13)
    refine TWp.seq_k fun K14 hK14 => ?_
    refine TWp.cond_k fun K15 hK15 => ?_
    simp -implicitDefEqProofs (disch := omega) only [seval, go_sem, h20, h21, h5, ho]
    refine hK15 _ (fun hb => ?_) (fun hb => ?_) <;> clear hK15 <;> clear K15
    · try (replace hb := of_decide_eq_true hb)
      refine TWp.skip ?_
      refine hK14 _ _ ?_; try (clear hK14; clear K14)
      refine TWp.seq_k fun K16 hK16 => ?_
      refine TWp.block ?_
      refine TWp.sr fun K17 hK17 => ?_
      simp -implicitDefEqProofs (disch := omega) only [seval, go_sem, h20, h21, h5, ho]
      repeat (refine ⟨by omega, ?_⟩)
      refine hK17 _ _ ?_; try (clear hK17; clear K17)
      refine TWp.rk fun K18 hK18 => ?_
      simp -implicitDefEqProofs (disch := omega) only [seval, go_sem, h20, h21, h5, ho]
      repeat (refine ⟨by omega, ?_⟩)
      refine hK18 _ _ ?_; try (clear hK18; clear K18)
      refine hK16 _ _ ?_; try (clear hK16; clear K16)
      refine TWp.rk fun K19 hK19 => ?_
      simp -implicitDefEqProofs (disch := omega) only [seval, go_sem, h20, h21, h5, ho]
      repeat (refine ⟨by omega, ?_⟩)
      refine hK19 _ _ ?_; try (clear hK19; clear K19)
      refine ⟨n - 1, by omega, i + 1, S'.n, by omega, h20, rfl, rfl, ?_, hkeep.1, (hkeep.set hk _).push' _⟩
      refine (push_self (S'.set k .gone) _).trans ?_
      rw [wordsB_snoc h i (by omega), dB_app, cellsD_app]
      rfl
    · try (replace hb := of_decide_eq_false hb)
      refine TWp.exit ?_
      refine hK11 _ _ ?_; try (clear hK11; clear K11)
      refine TWp.sr fun K20 hK20 => ?_
      simp -implicitDefEqProofs (disch := omega) only [seval, go_sem, h20, h21, h5, ho]
      repeat (refine ⟨by omega, ?_⟩)
      refine hK20 _ _ ?_; try (clear hK20; clear K20)
      have hi : i = 8 := by omega
      subst hi
      have hht : h.take 8 = h := List.take_of_length_le (by omega)
      refine TWp.ret ⟨.inr rfl, [_], ⟨rfl, trivial⟩, k, rfl, hk, ?_, hkeep⟩
      rw [sha, ← hsum]
      rw [hht] at ho
      exact ho
theorem c_hash_Sum {S : TS} {g : Tag} {p : List (BitVec 8)} {K : TV → TS → Prop} (hK : K (.sl (.own S.n) 1 (dB (sha p))) (S.push .lin)) (hp : p.length ≤ 1000000 := by omega) : TCall env 148 [.sl g 1 (dB p)] S K :=
  (TCall.freeze (c_hash_Sum_ok S g p hp) (by rw [cB_len, sha_len]) (fun S' id h => srcD_F (fun x : BitVec 8 => w8 x) (fun _ => rfl) h (sha_len p).symm (by decide))).mono fun t S' ⟨h1, h2⟩ => by rw [h1, h2]; exact hK
end Go.Proofs.YtoldjfappfbfbaaGreatDoor
namespace Go.Proofs.YtoldjfappfbfbaaGreatDoor
open Go.RowKit TL
theorem take_succ_getD {α : Type} {a : List α} {i : Nat} (d : α) (h : i < a.length) : a.take (i + 1) = a.take i ++ [a.getD i d] := by
  rw [List.take_succ_eq_append_getElem h]
  simp [List.getD_eq_getElem?_getD, List.getElem?_eq_getElem h]
def tr (x : BitVec 32) (n : Nat) : BitVec 32 := x >>> n ||| x <<< (32 - n)
set_option maxRecDepth 8000 in
theorem c_godownref02_turned_ok (S : TS) (x : BitVec 32) (n : Nat) (hn : n ≤ 32) : TCall env 118 [.lit (w32 x), .lit (.int .i64 (n : Int))] S fun r S' => r = .lit (w32 (tr x n)) ∧ S' = S := by
  refine TCall.of 13 [.tmp 4] Tryz.func118 rfl rfl rfl rfl (by kernel_rfl) rfl ?_
  refine TWp.sr fun K0 hK0 => ?_
  simp -implicitDefEqProofs (disch := omega) only [seval, go_sem]
  repeat (refine ⟨by first | omega | exact Keep.push _ _ | exact KpL.push _ _, ?_⟩)
  refine hK0 _ _ ?_; try (clear hK0; clear K0)
  refine TWp.sd [(0, 0), (1, 0), (2, 0), (3, 0), (4, 0), (5, 0), (6, 0), (7, 0), (8, 0)] follows (by kernel_rfl) fun K1 hK1 => ?_
  simp -implicitDefEqProofs (disch := omega) only [seval, go_sem]
  repeat (refine ⟨by first | omega | exact Keep.push _ _ | exact KpL.push _ _, ?_⟩)
  refine hK1 _ _ ?_; try (clear hK1; clear K1)
  exact TWp.ret ⟨.inr rfl, [_], ⟨rfl, trivial⟩, rfl, rfl⟩
theorem c_godownref02_turned {S : TS} {x : BitVec 32} {n : Nat} {K : TV → TS → Prop} (hK : K (.lit (w32 (tr x (no_index (OfNat.ofNat n))))) S) (hn : OfNat.ofNat n ≤ 32 := by omega) : TCall env 118 [.lit (w32 x), .lit (.int .i64 (OfNat.ofNat n : Int))] S K :=
  (c_godownref02_turned_ok S x (OfNat.ofNat n) hn).mono fun t S' ⟨h1, h2⟩ => by rw [h1, h2]; exact hK
end Go.Proofs.YtoldjfappfbfbaaGreatDoor
namespace Go.Proofs.YtoldjfappfbfbaaGreatDoor
open Go.RowKit TL
def wideH (a b : BitVec 64) : BitVec 64 :=
  let mid := (a >>> 32) * (b % 4294967296#64) + ((a % 4294967296#64) * (b % 4294967296#64)) >>> 32
  (a >>> 32) * (b >>> 32) + mid >>> 32 + (mid % 4294967296#64 + (a % 4294967296#64) * (b >>> 32)) >>> 32
def ltI (a b : BitVec 64) : Bool := decide ((a.toNat : Int) < (b.toNat : Int))
def eqI (a b : BitVec 64) : Bool := decide ((a.toNat : Int) = (b.toNat : Int))
def zI (a : BitVec 64) : Bool := decide ((a.toNat : Int) = 0)
set_option maxRecDepth 8000 in
theorem c_godownref02_wide_ok (S : TS) (a b : BitVec 64) : TCall env 184 [.lit (w64 a), .lit (w64 b)] S fun r S' => r = .tup [.lit (w64 (wideH a b)), .lit (w64 (a * b))] ∧ S' = S := by
  refine TCall.of 46 [.tmp 4, .tmp 5] Tryz.func184 rfl rfl rfl rfl (by kernel_rfl) rfl ?_
  refine TWp.sr fun K0 hK0 => ?_
  simp (disch := omega) only [seval, go_sem]
  repeat (refine ⟨by omega, ?_⟩)
  refine hK0 _ _ ?_; try (clear hK0; clear K0)
  refine TWp.sr fun K1 hK1 => ?_
  simp (disch := omega) only [seval, go_sem]
  repeat (refine ⟨by omega, ?_⟩)
  refine hK1 _ _ ?_; try (clear hK1; clear K1)
  refine TWp.sr fun K2 hK2 => ?_
  simp (disch := omega) only [seval, go_sem]
  repeat (refine ⟨by omega, ?_⟩)
  refine hK2 _ _ ?_; try (clear hK2; clear K2)
  refine TWp.sr fun K3 hK3 => ?_
  simp (disch := omega) only [seval, go_sem]
  repeat (refine ⟨by omega, ?_⟩)
  refine hK3 _ _ ?_; try (clear hK3; clear K3)
  refine TWp.sr fun K4 hK4 => ?_
  simp (disch := omega) only [seval, go_sem]
  repeat (refine ⟨by omega, ?_⟩)
  refine hK4 _ _ ?_; try (clear hK4; clear K4)
  exact TWp.ret ⟨.inr rfl, [_, _], ⟨rfl, rfl, trivial⟩, rfl, rfl⟩
theorem c_godownref02_wide {S : TS} {a b : BitVec 64} {K : TV → TS → Prop} (hK : K (.tup [.lit (w64 (wideH a b)), .lit (w64 (a * b))]) S) : TCall env 184 [.lit (w64 a), .lit (w64 b)] S K :=
  (c_godownref02_wide_ok S a b).mono fun t S' ⟨h1, h2⟩ => by rw [h1, h2]; exact hK
def squareF (a n : BitVec 64) : Bool := ltI (wideH a a) n || (eqI (wideH a a) n && zI (a * a))
set_option maxRecDepth 8000 in
theorem c_godownref02_square_ok (S : TS) (a n : BitVec 64) : TCall env 154 [.lit (w64 a), .lit (w64 n)] S fun r S' => r = .lit (.bool (squareF a n)) ∧ S' = S := by
  refine TCall.of 25 [.tmp 4] Tryz.func154 rfl rfl rfl rfl (by kernel_rfl) rfl ?_
  refine TWp.sr fun K0 hK0 => ?_
  simp (disch := omega) only [seval, go_sem]
  repeat (refine ⟨by omega, ?_⟩)
  refine hK0 _ _ ?_; try (clear hK0; clear K0)
  refine TWp.sr fun K1 hK1 => ?_
  simp (disch := omega) only [seval, go_sem]
  repeat (refine ⟨by omega, ?_⟩)
  refine c_godownref02_wide ?_
  simp (disch := omega) only [seval, go_sem]
  repeat (refine ⟨by omega, ?_⟩)
  refine hK1 _ _ ?_; try (clear hK1; clear K1)
  refine TWp.sr fun K2 hK2 => ?_
  simp (disch := omega) only [seval, go_sem]
  repeat' (first | refine ⟨by omega, ?_⟩ | (refine brT_split (fun hb => ?_) (fun hb => ?_) <;> simp (disch := omega) only [seval, go_sem, hb]))
  all_goals
    refine hK2 _ _ ?_; try (clear hK2; clear K2)
    all_goals (refine TWp.ret ⟨.inr rfl, [_], ⟨rfl, trivial⟩, ?_, rfl⟩)
    all_goals (show TV.lit (.bool _) = _)
    all_goals (simp only [squareF, ltI, eqI, zI, decide_eq_true_eq, decide_true, decide_false, if_true, if_false, Bool.false_eq_true, Bool.true_or, Bool.false_or, Bool.true_and, Bool.false_and, *])
theorem c_godownref02_square {S : TS} {a n : BitVec 64} {K : TV → TS → Prop} (hK : K (.lit (.bool (squareF a n))) S) : TCall env 154 [.lit (w64 a), .lit (w64 n)] S K :=
  (c_godownref02_square_ok S a n).mono fun t S' ⟨h1, h2⟩ => by rw [h1, h2]; exact hK
def cubeF (a n : BitVec 64) : Bool :=
  let hi := wideH a a
  let lo := a * a
  let x := wideH lo a
  let y := lo * a
  let w := hi * a
  let mid := w + x
  let z := if ltI mid w then wideH hi a + 1#64 else wideH hi a
  let top := z <<< 32 ||| mid >>> 32
  let rest := mid % 4294967296#64 ||| y
  ltI top n || (eqI top n && zI rest)
set_option maxRecDepth 8000 in
theorem c_godownref02_cube_ok (S : TS) (a n : BitVec 64) : TCall env 153 [.lit (w64 a), .lit (w64 n)] S fun r S' => r = .lit (.bool (cubeF a n)) ∧ S' = S := by
  refine TCall.of 61 [.tmp 4] Tryz.func153 rfl rfl rfl rfl (by kernel_rfl) rfl ?_
  refine TWp.sr fun K0 hK0 => ?_
  simp (disch := omega) only [seval, go_sem]
  repeat (refine ⟨by omega, ?_⟩)
  refine hK0 _ _ ?_; try (clear hK0; clear K0)
  refine TWp.sr fun K1 hK1 => ?_
  simp (disch := omega) only [seval, go_sem]
  repeat (refine ⟨by omega, ?_⟩)
  refine c_godownref02_wide ?_
  simp (disch := omega) only [seval, go_sem]
  repeat (refine ⟨by omega, ?_⟩)
  refine hK1 _ _ ?_; try (clear hK1; clear K1)
  refine TWp.sr fun K2 hK2 => ?_
  simp (disch := omega) only [seval, go_sem]
  repeat (refine ⟨by omega, ?_⟩)
  refine c_godownref02_wide ?_
  simp (disch := omega) only [seval, go_sem]
  repeat (refine ⟨by omega, ?_⟩)
  refine hK2 _ _ ?_; try (clear hK2; clear K2)
  refine TWp.sr fun K3 hK3 => ?_
  simp (disch := omega) only [seval, go_sem]
  repeat (refine ⟨by omega, ?_⟩)
  refine c_godownref02_wide ?_
  simp (disch := omega) only [seval, go_sem]
  repeat (refine ⟨by omega, ?_⟩)
  refine hK3 _ _ ?_; try (clear hK3; clear K3)
  refine TWp.sr fun K4 hK4 => ?_
  simp (disch := omega) only [seval, go_sem]
  repeat (refine ⟨by omega, ?_⟩)
  refine hK4 _ _ ?_; try (clear hK4; clear K4)
  refine TWp.seq_k fun K5 hK5 => ?_
  refine TWp.sr fun K6 hK6 => ?_
  simp (disch := omega) only [seval, go_sem]
  repeat (refine ⟨by omega, ?_⟩)
  refine hK6 _ _ ?_; try (clear hK6; clear K6)
  refine TWp.cond rfl (fun hb => ?_) (fun hb => ?_)
  · try (replace hb := of_decide_eq_true hb)
    refine TWp.rk fun K7 hK7 => ?_
    simp (disch := omega) only [seval, go_sem]
    repeat (refine ⟨by omega, ?_⟩)
    refine hK7 _ _ ?_; try (clear hK7; clear K7)
    refine hK5 _ _ ?_; try (clear hK5; clear K5)
    refine TWp.sr fun K8 hK8 => ?_
    simp (disch := omega) only [seval, go_sem]
    repeat (refine ⟨by omega, ?_⟩)
    refine hK8 _ _ ?_; try (clear hK8; clear K8)
    refine TWp.sr fun K9 hK9 => ?_
    simp (disch := omega) only [seval, go_sem]
    repeat (refine ⟨by omega, ?_⟩)
    refine hK9 _ _ ?_; try (clear hK9; clear K9)
    refine TWp.sr fun K10 hK10 => ?_
    simp (disch := omega) only [seval, go_sem]
    repeat' (first | refine ⟨by omega, ?_⟩ | (refine brT_split (fun hb => ?_) (fun hb => ?_) <;> simp (disch := omega) only [seval, go_sem, hb]))
    all_goals
      refine hK10 _ _ ?_; try (clear hK10; clear K10)
      all_goals (refine TWp.ret ⟨.inr rfl, [_], ⟨rfl, trivial⟩, ?_, rfl⟩)
      all_goals (show TV.lit (.bool _) = _)
      all_goals (simp only [cubeF, ltI, eqI, zI, decide_eq_true_eq, decide_true, decide_false, if_true, if_false, Bool.false_eq_true, Bool.true_or, Bool.false_or, Bool.true_and, Bool.false_and, *])
  · try (replace hb := of_decide_eq_false hb)
    refine TWp.skip ?_
    refine hK5 _ _ ?_; try (clear hK5; clear K5)
    refine TWp.sr fun K11 hK11 => ?_
    simp (disch := omega) only [seval, go_sem]
    repeat (refine ⟨by omega, ?_⟩)
    refine hK11 _ _ ?_; try (clear hK11; clear K11)
    refine TWp.sr fun K12 hK12 => ?_
    simp (disch := omega) only [seval, go_sem]
    repeat (refine ⟨by omega, ?_⟩)
    refine hK12 _ _ ?_; try (clear hK12; clear K12)
    refine TWp.sr fun K13 hK13 => ?_
    simp (disch := omega) only [seval, go_sem]
    repeat' (first | refine ⟨by omega, ?_⟩ | (refine brT_split (fun hb => ?_) (fun hb => ?_) <;> simp (disch := omega) only [seval, go_sem, hb]))
    all_goals
      refine hK13 _ _ ?_; try (clear hK13; clear K13)
      all_goals (refine TWp.ret ⟨.inr rfl, [_], ⟨rfl, trivial⟩, ?_, rfl⟩)
      all_goals (show TV.lit (.bool _) = _)
      all_goals (simp only [cubeF, ltI, eqI, zI, decide_eq_true_eq, decide_true, decide_false, if_true, if_false, Bool.false_eq_true, Bool.true_or, Bool.false_or, Bool.true_and, Bool.false_and, *])
theorem c_godownref02_cube {S : TS} {a n : BitVec 64} {K : TV → TS → Prop} (hK : K (.lit (.bool (cubeF a n))) S) : TCall env 153 [.lit (w64 a), .lit (w64 n)] S K :=
  (c_godownref02_cube_ok S a n).mono fun t S' ⟨h1, h2⟩ => by rw [h1, h2]; exact hK
def rootUpto (f : BitVec 64 → BitVec 64 → Bool) (x : BitVec 64) : Nat → BitVec 64 → BitVec 64
  | 0, a => a
  | k + 1, a => rootUpto f x k (if f (a + 1#64 <<< k) x = true then a + 1#64 <<< k else a)
def rootF (f : BitVec 64 → BitVec 64 → Bool) (x : BitVec 64) : BitVec 32 := BitVec.setWidth 32 (rootUpto f x 37 0 % 4294967296#64)
set_option maxRecDepth 8000 in
theorem c_godownref02_root_cube_ok (S : TS) (x : BitVec 64) : TCall env 129 [.lit (w64 x), .lit (.bool true)] S fun r S' => r = .lit (w32 (rootF cubeF x)) ∧ S' = S := by
  refine TCall.of 35 [.tmp 4] Tryz.func129 rfl rfl rfl rfl (by kernel_rfl) rfl ?_
  refine TWp.sr fun K0 hK0 => ?_
  simp (disch := omega) only [seval, go_sem]
  repeat (refine ⟨by omega, ?_⟩)
  refine hK0 _ _ ?_; try (clear hK0; clear K0)
  refine TWp.sr fun K1 hK1 => ?_
  simp (disch := omega) only [seval, go_sem]
  repeat (refine ⟨by omega, ?_⟩)
  refine hK1 _ _ ?_; try (clear hK1; clear K1)
  refine TWp.seq_k fun K2 hK2 => ?_
  refine TWp.sr fun K3 hK3 => ?_
  simp (disch := omega) only [seval, go_sem]
  repeat (refine ⟨by omega, ?_⟩)
  refine hK3 _ _ ?_; try (clear hK3; clear K3)
  refine TWp.block ?_
  refine TWp.loop (fun n T S' => ∃ a, rootUpto cubeF x n a = rootUpto cubeF x 37 0 ∧ n ≤ 37 ∧ T 0 = .lit (w64 x) ∧ T 1 = .lit (.bool true) ∧ T 5 = .lit (w64 a) ∧ T 6 = .lit (.int .i64 ((n : Int) - 1)) ∧ S' = S) (37) ?_ ?_
  · exact ⟨0, rfl, by omega, rfl, rfl, rfl, rfl, rfl⟩
  rintro n T S' ⟨a, hr, hn, h0, h1, h5, h6, rfl⟩
  refine TWp.seq_k fun K4 hK4 => ?_
  refine TWp.sr fun K5 hK5 => ?_
  simp (disch := omega) only [seval, go_sem, h0, h1, h5, h6]
  repeat (refine ⟨by omega, ?_⟩)
  refine hK5 _ _ ?_; try (clear hK5; clear K5)
  refine TWp.cond rfl (fun hb => ?_) (fun hb => ?_)
  · try (replace hb := of_decide_eq_true hb)
    refine TWp.skip ?_
    refine hK4 _ _ ?_; try (clear hK4; clear K4)
    refine TWp.seq_k fun K6 hK6 => ?_
    refine TWp.block ?_
    refine TWp.sr fun K7 hK7 => ?_
    simp (disch := omega) only [seval, go_sem, h0, h1, h5, h6]
    repeat (refine ⟨by omega, ?_⟩)
    refine hK7 _ _ ?_; try (clear hK7; clear K7)
    refine TWp.sr fun K8 hK8 => ?_
    simp (disch := omega) only [seval, go_sem, h0, h1, h5, h6]
    repeat (refine ⟨by omega, ?_⟩)
    refine c_godownref02_cube ?_
    simp (disch := omega) only [seval, go_sem, h0, h1, h5, h6]
    repeat' (first | refine ⟨by omega, ?_⟩ | (refine brT_split (fun hb => ?_) (fun hb => ?_) <;> simp (disch := omega) only [seval, go_sem, hb, h0, h1, h5, h6]))
    all_goals
      refine hK8 _ _ ?_; try (clear hK8; clear K8)
      refine TWp.cond rfl (fun hb => ?_) (fun hb => ?_)
      · try (replace hb := of_decide_eq_true hb)
        try (exact absurd hb (by decide))
        all_goals
          refine TWp.rk fun K9 hK9 => ?_
          simp (disch := omega) only [seval, go_sem, h0, h1, h5, h6]
          repeat (refine ⟨by omega, ?_⟩)
          refine hK9 _ _ ?_; try (clear hK9; clear K9)
          refine hK6 _ _ ?_; try (clear hK6; clear K6)
          refine TWp.rk fun K10 hK10 => ?_
          simp (disch := omega) only [seval, go_sem, h0, h1, h5, h6]
          repeat (refine ⟨by omega, ?_⟩)
          refine hK10 _ _ ?_; try (clear hK10; clear K10)
          obtain ⟨m, rfl⟩ : ∃ m, n = m + 1 := ⟨n - 1, by omega⟩
          refine ⟨m, by omega, _, ?_, by omega, h0, h1, rfl, ?_, rfl⟩
          · rw [← hr, rootUpto, if_pos (by assumption)]; rfl
          · simp [upd]
      · try (replace hb := of_decide_eq_false hb)
        try (exact absurd hb (by decide))
        all_goals
          refine TWp.skip ?_
          refine hK6 _ _ ?_; try (clear hK6; clear K6)
          refine TWp.rk fun K11 hK11 => ?_
          simp (disch := omega) only [seval, go_sem, h0, h1, h5, h6]
          repeat (refine ⟨by omega, ?_⟩)
          refine hK11 _ _ ?_; try (clear hK11; clear K11)
          obtain ⟨m, rfl⟩ : ∃ m, n = m + 1 := ⟨n - 1, by omega⟩
          refine ⟨m, by omega, _, ?_, by omega, h0, h1, h5, ?_, rfl⟩
          · rw [← hr, rootUpto, if_neg (by rw [Bool.not_eq_true]; assumption)]
          · simp [upd]
  · try (replace hb := of_decide_eq_false hb)
    refine TWp.exit ?_
    refine hK2 _ _ ?_; try (clear hK2; clear K2)
    refine TWp.sr fun K12 hK12 => ?_
    simp (disch := omega) only [seval, go_sem, h0, h1, h5, h6]
    repeat (refine ⟨by omega, ?_⟩)
    refine hK12 _ _ ?_; try (clear hK12; clear K12)
    obtain rfl : n = 0 := by omega
    refine TWp.ret ⟨.inr rfl, [_], ⟨rfl, trivial⟩, ?_, rfl⟩
    rw [rootF, ← hr]
    rfl
theorem c_godownref02_root_cube {S : TS} {x : BitVec 64} {K : TV → TS → Prop} (hK : K (.lit (w32 (rootF cubeF x))) S) : TCall env 129 [.lit (w64 x), .lit (.bool true)] S K :=
  (c_godownref02_root_cube_ok S x).mono fun t S' ⟨h1, h2⟩ => by rw [h1, h2]; exact hK
set_option maxRecDepth 8000 in
theorem c_godownref02_root_square_ok (S : TS) (x : BitVec 64) : TCall env 129 [.lit (w64 x), .lit (.bool false)] S fun r S' => r = .lit (w32 (rootF squareF x)) ∧ S' = S := by
  refine TCall.of 35 [.tmp 4] Tryz.func129 rfl rfl rfl rfl (by kernel_rfl) rfl ?_
  refine TWp.sr fun K0 hK0 => ?_
  simp (disch := omega) only [seval, go_sem]
  repeat (refine ⟨by omega, ?_⟩)
  refine hK0 _ _ ?_; try (clear hK0; clear K0)
  refine TWp.sr fun K1 hK1 => ?_
  simp (disch := omega) only [seval, go_sem]
  repeat (refine ⟨by omega, ?_⟩)
  refine hK1 _ _ ?_; try (clear hK1; clear K1)
  refine TWp.seq_k fun K2 hK2 => ?_
  refine TWp.sr fun K3 hK3 => ?_
  simp (disch := omega) only [seval, go_sem]
  repeat (refine ⟨by omega, ?_⟩)
  refine hK3 _ _ ?_; try (clear hK3; clear K3)
  refine TWp.block ?_
  refine TWp.loop (fun n T S' => ∃ a, rootUpto squareF x n a = rootUpto squareF x 37 0 ∧ n ≤ 37 ∧ T 0 = .lit (w64 x) ∧ T 1 = .lit (.bool false) ∧ T 5 = .lit (w64 a) ∧ T 6 = .lit (.int .i64 ((n : Int) - 1)) ∧ S' = S) (37) ?_ ?_
  · exact ⟨0, rfl, by omega, rfl, rfl, rfl, rfl, rfl⟩
  rintro n T S' ⟨a, hr, hn, h0, h1, h5, h6, rfl⟩
  refine TWp.seq_k fun K4 hK4 => ?_
  refine TWp.sr fun K5 hK5 => ?_
  simp (disch := omega) only [seval, go_sem, h0, h1, h5, h6]
  repeat (refine ⟨by omega, ?_⟩)
  refine hK5 _ _ ?_; try (clear hK5; clear K5)
  refine TWp.cond rfl (fun hb => ?_) (fun hb => ?_)
  · try (replace hb := of_decide_eq_true hb)
    refine TWp.skip ?_
    refine hK4 _ _ ?_; try (clear hK4; clear K4)
    refine TWp.seq_k fun K6 hK6 => ?_
    refine TWp.block ?_
    refine TWp.sr fun K7 hK7 => ?_
    simp (disch := omega) only [seval, go_sem, h0, h1, h5, h6]
    repeat (refine ⟨by omega, ?_⟩)
    refine hK7 _ _ ?_; try (clear hK7; clear K7)
    refine TWp.sr fun K8 hK8 => ?_
    simp (disch := omega) only [seval, go_sem, h0, h1, h5, h6]
    repeat (refine ⟨by omega, ?_⟩)
    refine c_godownref02_square ?_
    simp (disch := omega) only [seval, go_sem, h0, h1, h5, h6]
    repeat' (first | refine ⟨by omega, ?_⟩ | (refine brT_split (fun hb => ?_) (fun hb => ?_) <;> simp (disch := omega) only [seval, go_sem, hb, h0, h1, h5, h6]))
    all_goals
      refine hK8 _ _ ?_; try (clear hK8; clear K8)
      refine TWp.cond rfl (fun hb => ?_) (fun hb => ?_)
      · try (replace hb := of_decide_eq_true hb)
        try (exact absurd hb (by decide))
        all_goals
          refine TWp.rk fun K9 hK9 => ?_
          simp (disch := omega) only [seval, go_sem, h0, h1, h5, h6]
          repeat (refine ⟨by omega, ?_⟩)
          refine hK9 _ _ ?_; try (clear hK9; clear K9)
          refine hK6 _ _ ?_; try (clear hK6; clear K6)
          refine TWp.rk fun K10 hK10 => ?_
          simp (disch := omega) only [seval, go_sem, h0, h1, h5, h6]
          repeat (refine ⟨by omega, ?_⟩)
          refine hK10 _ _ ?_; try (clear hK10; clear K10)
          obtain ⟨m, rfl⟩ : ∃ m, n = m + 1 := ⟨n - 1, by omega⟩
          refine ⟨m, by omega, _, ?_, by omega, h0, h1, rfl, ?_, rfl⟩
          · rw [← hr, rootUpto, if_pos (by assumption)]; rfl
          · simp [upd]
      · try (replace hb := of_decide_eq_false hb)
        try (exact absurd hb (by decide))
        all_goals
          refine TWp.skip ?_
          refine hK6 _ _ ?_; try (clear hK6; clear K6)
          refine TWp.rk fun K11 hK11 => ?_
          simp (disch := omega) only [seval, go_sem, h0, h1, h5, h6]
          repeat (refine ⟨by omega, ?_⟩)
          refine hK11 _ _ ?_; try (clear hK11; clear K11)
          obtain ⟨m, rfl⟩ : ∃ m, n = m + 1 := ⟨n - 1, by omega⟩
          refine ⟨m, by omega, _, ?_, by omega, h0, h1, h5, ?_, rfl⟩
          · rw [← hr, rootUpto, if_neg (by rw [Bool.not_eq_true]; assumption)]
          · simp [upd]
  · try (replace hb := of_decide_eq_false hb)
    refine TWp.exit ?_
    refine hK2 _ _ ?_; try (clear hK2; clear K2)
    refine TWp.sr fun K12 hK12 => ?_
    simp (disch := omega) only [seval, go_sem, h0, h1, h5, h6]
    repeat (refine ⟨by omega, ?_⟩)
    refine hK12 _ _ ?_; try (clear hK12; clear K12)
    obtain rfl : n = 0 := by omega
    refine TWp.ret ⟨.inr rfl, [_], ⟨rfl, trivial⟩, ?_, rfl⟩
    rw [rootF, ← hr]
    rfl
theorem c_godownref02_root_square {S : TS} {x : BitVec 64} {K : TV → TS → Prop} (hK : K (.lit (w32 (rootF squareF x))) S) : TCall env 129 [.lit (w64 x), .lit (.bool false)] S K :=
  (c_godownref02_root_square_ok S x).mono fun t S' ⟨h1, h2⟩ => by rw [h1, h2]; exact hK
end Go.Proofs.YtoldjfappfbfbaaGreatDoor
namespace Go.Proofs.YtoldjfappfbfbaaGreatDoor
open Go.RowKit TL
def primeL : List Nat := [2, 3, 5, 7, 11, 13, 17, 19, 23, 29, 31, 37, 41, 43, 47, 53, 59, 61, 67, 71, 73, 79, 83, 89, 97, 101, 103, 107, 109, 113, 127, 131, 137, 139, 149, 151, 157, 163, 167, 173, 179, 181, 191, 193, 197, 199, 211, 223, 227, 229, 233, 239, 241, 251, 257, 263, 269, 271, 277, 281, 283, 293, 307, 311]
def primeB : List (BitVec 64) := primeL.map (BitVec.ofNat 64)
def cnt (k : Nat) : Nat := (primeL.filter fun y => decide (y < k + 2)).length
def pr (k : Nat) : List (BitVec 64) := primeB.take (cnt k)
def isT (x : BitVec 64) (l : List (BitVec 64)) : Bool := l.all fun y => decide (¬ ((x % y).toNat : Int) = 0)
theorem pr_step : ∀ k, k < 310 → pr (k + 1) = if isT (BitVec.ofNat 64 (k + 2)) (pr k) = true then pr k ++ [BitVec.ofNat 64 (k + 2)] else pr k := by decide +kernel
theorem pr_len : ∀ k, k < 310 → (pr k).length < 64 := by decide +kernel
theorem pr_all : pr 310 = primeB := by decide +kernel
theorem prB_pos : ∀ i, i < 64 → 0 < (primeB.getD i 0).toNat := by decide +kernel
theorem primeB_len : primeB.length = 64 := rfl
theorem pr_get (k i : Nat) (hi : i < (pr k).length) : (pr k).getD i 0 = primeB.getD i 0 := by
  unfold pr at hi ⊢
  rw [List.length_take] at hi
  simp only [List.getD_eq_getElem?_getD]
  rw [List.getElem?_take_of_lt (by omega)]
theorem pr_pos (k i : Nat) : i < (pr k).length → 0 < ((pr k).getD i 0#64).toNat := by
  intro hi
  have h1 := pr_get k i hi
  have h2 : (pr k).length ≤ 64 := by unfold pr; rw [List.length_take, primeB_len]; omega
  have h3 := prB_pos i (by omega)
  rw [show (0#64) = (0 : BitVec 64) from rfl, h1]; exact h3
theorem pr_lt (k : Nat) : k ≤ 310 → (pr k).length < 64 → k < 310 := by
  intro h1 h2
  rcases Nat.lt_or_ge k 310 with h | h
  · exact h
  · have : k = 310 := by omega
    subst this
    rw [pr_all] at h2
    exact absurd h2 (by decide)
theorem x_succ (k : Nat) : BitVec.ofNat 64 (k + 2) + 1#64 = BitVec.ofNat 64 (k + 1 + 2) := by
  apply BitVec.eq_of_toNat_eq; simp
theorem isT_snoc (x y : BitVec 64) (l : List (BitVec 64)) : isT x (l ++ [y]) = (isT x l && decide (¬ ((x % y).toNat : Int) = 0)) := by simp [isT]
set_option maxRecDepth 8000 in
theorem c_godownref02_primes_ok (S : TS) : TCall env 128 [.lit (.int .i64 64)] S fun r S' => ∃ t, r = .sl (.own t) 1 (dQ primeB) ∧ S.n ≤ t ∧ S'.objs t = .lin ∧ Keep S S' := by
  refine TCall.of 35 [.tmp 2] Tryz.func128 rfl rfl rfl rfl (by kernel_rfl) rfl ?_
  refine TWp.sr fun K0 hK0 => ?_
  simp (disch := omega) only [seval, go_sem]
  repeat (refine ⟨by omega, ?_⟩)
  refine hK0 _ _ ?_; try (clear hK0; clear K0)
  refine TWp.sr fun K1 hK1 => ?_
  simp (disch := omega) only [seval, go_sem]
  repeat (refine ⟨by omega, ?_⟩)
  refine hK1 _ _ ?_; try (clear hK1; clear K1)
  refine TWp.seq_k fun K2 hK2 => ?_
  refine TWp.sr fun K3 hK3 => ?_
  simp (disch := omega) only [seval, go_sem]
  repeat (refine ⟨by omega, ?_⟩)
  refine hK3 _ _ ?_; try (clear hK3; clear K3)
  refine TWp.block ?_
  refine TWp.asRow 3 1 rfl (.inl rfl) ?_
  refine TWp.loop (fun n T S' => ∃ k t, n + k = 310 ∧ T 0 = .lit (.int .i64 64) ∧ T 3 = .sl (.own t) 1 (dQ (pr k)) ∧ T 4 = .lit (w64 (BitVec.ofNat 64 (k + 2))) ∧ S'.objs t = .lin ∧ S.n ≤ t ∧ Keep S S') (310) ?_ ?_
  · exact ⟨0, _, rfl, rfl, rfl, rfl, push_self _ _, Nat.le_refl _, Keep.push S _⟩
  rintro n1 T S1 ⟨k, t, hn, h0, h3, h4, ho, ht, hkeep⟩
  refine TWp.seq_k fun K4 hK4 => ?_
  refine TWp.sr fun K5 hK5 => ?_
  simp (disch := omega) only [seval, go_sem, h0, h3, h4, ho]
  repeat (refine ⟨by omega, ?_⟩)
  refine hK5 _ _ ?_; try (clear hK5; clear K5)
  refine TWp.cond rfl (fun hb => ?_) (fun hb => ?_)
  · try (replace hb := of_decide_eq_true hb)
    refine TWp.skip ?_
    refine hK4 _ _ ?_; try (clear hK4; clear K4)
    refine TWp.seq_k fun K6 hK6 => ?_
    refine TWp.block ?_
    refine TWp.sr fun K7 hK7 => ?_
    simp (disch := omega) only [seval, go_sem, h0, h3, h4, ho]
    repeat (refine ⟨by omega, ?_⟩)
    refine hK7 _ _ ?_; try (clear hK7; clear K7)
    refine TWp.seq_k fun K8 hK8 => ?_
    refine TWp.sr fun K9 hK9 => ?_
    simp (disch := omega) only [seval, go_sem, h0, h3, h4, ho]
    repeat (refine ⟨by omega, ?_⟩)
    refine hK9 _ _ ?_; try (clear hK9; clear K9)
    refine TWp.block ?_
    refine TWp.loop (fun n T S' => ∃ i, n + i = (pr k).length ∧ T 0 = .lit (.int .i64 64) ∧ T 3 = .sl (.own t) 1 (dQ (pr k)) ∧ T 4 = .lit (w64 (BitVec.ofNat 64 (k + 2))) ∧ T 5 = .lit (.bool (isT (BitVec.ofNat 64 (k + 2)) ((pr k).take i))) ∧ T 6 = .lit (.int .i64 (i : Int)) ∧ S' = S1) ((pr k).length) ?_ ?_
    · exact ⟨0, rfl, h0, h3, h4, rfl, rfl, rfl⟩
    rintro n T S' ⟨i, hi, h0, h3, h4, h5, h6, rfl⟩
    have hp := pr_pos k i
    have hkl := pr_lt k (by omega) (by omega)
    refine TWp.seq_k fun K10 hK10 => ?_
    refine TWp.sr fun K11 hK11 => ?_
    simp (disch := omega) only [seval, go_sem, h0, h3, h4, h5, h6, ho]
    repeat (refine ⟨by omega, ?_⟩)
    refine hK11 _ _ ?_; try (clear hK11; clear K11)
    refine TWp.cond rfl (fun hb => ?_) (fun hb => ?_)
    · try (replace hb := of_decide_eq_true hb)
      refine TWp.skip ?_
      refine hK10 _ _ ?_; try (clear hK10; clear K10)
      refine TWp.seq_k fun K12 hK12 => ?_
      refine TWp.block ?_
      refine TWp.rk fun K13 hK13 => ?_
      simp (disch := omega) only [seval, go_sem, h0, h3, h4, h5, h6, ho]
      repeat' (first | refine ⟨by omega, ?_⟩ | (refine brT_split (fun hb => ?_) (fun hb => ?_) <;> simp (disch := omega) only [seval, go_sem, hb, h0, h3, h4, h5, h6, ho]))
      all_goals
        refine hK13 _ _ ?_; try (clear hK13; clear K13)
        refine hK12 _ _ ?_; try (clear hK12; clear K12)
        refine TWp.rk fun K14 hK14 => ?_
        simp (disch := omega) only [seval, go_sem, h0, h3, h4, h5, h6, ho]
        repeat (refine ⟨by omega, ?_⟩)
        refine hK14 _ _ ?_; try (clear hK14; clear K14)
        have hi' : i < (pr k).length := by omega
        refine ⟨n - 1, by omega, i + 1, by omega, h0, h3, h4, ?_, rfl, rfl⟩
        rw [take_succ_getD 0#64 hi', isT_snoc]
        first
          | (rw [hb, Bool.true_and]; rfl)
          | (rw [hb, Bool.false_and]; rfl)
    · try (replace hb := of_decide_eq_false hb)
      refine TWp.exit ?_
      refine hK8 _ _ ?_; try (clear hK8; clear K8)
      refine TWp.sr fun K15 hK15 => ?_
      simp (disch := omega) only [seval, go_sem, h0, h3, h4, h5, h6, ho]
      repeat (refine ⟨by omega, ?_⟩)
      refine hK15 _ _ ?_; try (clear hK15; clear K15)
      refine TWp.cond rfl (fun hb => ?_) (fun hb => ?_)
      · try (replace hb := of_decide_eq_true hb)
        refine TWp.rk fun K16 hK16 => ?_
        simp (disch := omega) only [seval, go_sem, h0, h3, h4, h5, h6, ho]
        repeat (refine ⟨by omega, ?_⟩)
        refine hK16 _ _ ?_; try (clear hK16; clear K16)
        refine hK6 _ _ ?_; try (clear hK6; clear K6)
        refine TWp.rk fun K17 hK17 => ?_
        simp (disch := omega) only [seval, go_sem, h0, h3, h4, h5, h6, ho]
        repeat (refine ⟨by omega, ?_⟩)
        refine hK17 _ _ ?_; try (clear hK17; clear K17)
        obtain rfl : i = (pr k).length := by omega
        have hbb : isT (BitVec.ofNat 64 (k + 2)) (pr k) = true := ‹isT (BitVec.ofNat 64 (k + 2)) (pr k) = true›
        refine ⟨n1 - 1, by omega, k + 1, _, by omega, h0, ?_, ?_, push_self _ _, hkeep.1, (hkeep.set ht _).push' _⟩
        · rw [pr_step k hkl, if_pos hbb, dQ_app]; rfl
        · show TV.lit (w64 (_ + 1#64)) = _
          rw [x_succ]
      · try (replace hb := of_decide_eq_false hb)
        refine TWp.skip ?_
        refine hK6 _ _ ?_; try (clear hK6; clear K6)
        refine TWp.rk fun K18 hK18 => ?_
        simp (disch := omega) only [seval, go_sem, h0, h3, h4, h5, h6, ho]
        repeat (refine ⟨by omega, ?_⟩)
        refine hK18 _ _ ?_; try (clear hK18; clear K18)
        obtain rfl : i = (pr k).length := by omega
        have hbb : isT (BitVec.ofNat 64 (k + 2)) (pr k) = false := ‹isT (BitVec.ofNat 64 (k + 2)) (pr k) = false›
        refine ⟨n1 - 1, by omega, k + 1, t, by omega, h0, ?_, ?_, ho, ht, hkeep⟩
        · rw [pr_step k hkl, if_neg (by rw [hbb]; exact Bool.false_ne_true)]; exact h3
        · show TV.lit (w64 (_ + 1#64)) = _
          rw [x_succ]
  · try (replace hb := of_decide_eq_false hb)
    refine TWp.exit ?_
    refine hK2 _ _ ?_; try (clear hK2; clear K2)
    refine TWp.sr fun K19 hK19 => ?_
    simp (disch := omega) only [seval, go_sem, h0, h3, h4, ho]
    repeat (refine ⟨by omega, ?_⟩)
    refine hK19 _ _ ?_; try (clear hK19; clear K19)
    have hk : k = 310 := by
      have := pr_len k
      omega
    subst hk
    exact TWp.ret ⟨.inr rfl, [_], ⟨rfl, trivial⟩, t, by rw [← pr_all]; rfl, ht, ho, hkeep⟩
theorem c_godownref02_primes {S : TS} {K : TV → TS → Prop} (hK : K (.sl (.own S.n) 1 (dQ primeB)) (S.push .lin)) : TCall env 128 [.lit (.int .i64 64)] S K :=
  (c_godownref02_primes_ok S).row.mono fun t S' ⟨h1, h2⟩ => by rw [h1, h2]; exact hK
theorem tab_snoc (f : BitVec 64 → BitVec 32) (l : List (BitVec 64)) (i : Nat) (h : i < l.length) : gD ((l.take (i + 1)).map f) = gD ((l.take i).map f) ++ [.lit (w32 (f (l.getD i 0#64)))] := by
  rw [take_succ_getD 0#64 h, List.map_append, gD_app]; rfl
theorem take8_get (i : Nat) (h : i < 8) : (primeB.take 8).getD i 0#64 = primeB.getD i 0#64 := by
  simp only [List.getD_eq_getElem?_getD]
  rw [List.getElem?_take_of_lt h]
theorem p8_len : (primeB.take 8).length = 8 := rfl
attribute [irreducible] primeB
def tabH : List (BitVec 32) := (primeB.take 8).map (rootF squareF)
def tabK : List (BitVec 32) := primeB.map (rootF cubeF)
set_option maxRecDepth 8000 in
theorem c_godownref02_Tables_ok (S : TS) : TCall env 104 [] S fun r S' => ∃ t1 t2, r = .tup [.sl (.own t1) 1 (gD tabH), .sl (.own t2) 1 (gD tabK)] ∧ S.n ≤ t1 ∧ S.n ≤ t2 ∧ t1 ≠ t2 ∧ S'.objs t1 = .lin ∧ S'.objs t2 = .lin ∧ Keep S S' := by
  have hpl := primeB_len
  have h8l := p8_len
  refine TCall.of 31 [.tmp 0, .tmp 1] Tryz.func104 rfl rfl rfl rfl (by kernel_rfl) rfl ?_
  refine TWp.sr fun K0 hK0 => ?_
  simp (disch := omega) only [seval, go_sem]
  repeat (refine ⟨by omega, ?_⟩)
  refine hK0 _ _ ?_; try (clear hK0; clear K0)
  refine TWp.sr fun K1 hK1 => ?_
  simp (disch := omega) only [seval, go_sem]
  repeat (refine ⟨by omega, ?_⟩)
  refine c_godownref02_primes ?_
  simp (disch := omega) only [seval, go_sem]
  repeat (refine ⟨by omega, ?_⟩)
  refine hK1 _ _ ?_; try (clear hK1; clear K1)
  refine TWp.sr fun K2 hK2 => ?_
  simp (disch := omega) only [seval, go_sem]
  repeat (refine ⟨by omega, ?_⟩)
  refine hK2 _ _ ?_; try (clear hK2; clear K2)
  refine TWp.seq_k fun K3 hK3 => ?_
  refine TWp.sr fun K4 hK4 => ?_
  simp (disch := omega) only [seval, go_sem]
  repeat (refine ⟨by omega, ?_⟩)
  refine hK4 _ _ ?_; try (clear hK4; clear K4)
  refine TWp.block ?_
  refine TWp.asRow 3 1 rfl (.inl rfl) ?_
  refine TWp.asRow 4 1 rfl (.inl rfl) ?_
  refine TWp.loop (fun n T S' => ∃ i t1 t2 g, n + i = 64 ∧ T 2 = .sl g 1 (dQ primeB) ∧ T 3 = .sl (.own t1) 1 (gD (((primeB.take 8).take i).map (rootF squareF))) ∧ T 4 = .sl (.own t2) 1 (gD ((primeB.take i).map (rootF cubeF))) ∧ T 5 = .lit (.int .i64 (i : Int)) ∧ S.n ≤ t1 ∧ S.n ≤ t2 ∧ t1 ≠ t2 ∧ S'.objs t1 = .lin ∧ S'.objs t2 = .lin ∧ Keep S S' ∧ t1 < S'.n ∧ t2 < S'.n) (64) ?_ ?_
  · refine ⟨0, _, _, _, rfl, rfl, rfl, rfl, rfl, ?_, ?_, ?_, ?_, push_self _ _, ?_, ?_, ?_⟩
    all_goals first | exact ((Keep.push S _).push' _).push' _ | (simp only [TS.push_n]; omega) | (simp (disch := omega) only [seval, go_sem])
  rintro n T S' ⟨i, t1, t2, g, hn, h2, h3, h4, h5, g1, g2, g3, o1, o2, hkeep, b1, b2⟩
  have hl1 : (((primeB.take 8).take i).map (rootF squareF)).length ≤ 8 := by simp; omega
  have hl2 : ((primeB.take i).map (rootF cubeF)).length ≤ 64 := by simp; omega
  refine TWp.seq_k fun K5 hK5 => ?_
  refine TWp.sr fun K6 hK6 => ?_
  simp (disch := omega) only [seval, go_sem, h2, h3, h4, h5, o1, o2]
  repeat (refine ⟨by omega, ?_⟩)
  refine hK6 _ _ ?_; try (clear hK6; clear K6)
  refine TWp.cond rfl (fun hb => ?_) (fun hb => ?_)
  · try (replace hb := of_decide_eq_true hb)
    refine TWp.skip ?_
    refine hK5 _ _ ?_; try (clear hK5; clear K5)
    refine TWp.seq_k fun K7 hK7 => ?_
    refine TWp.block ?_
    refine TWp.seq_k fun K8 hK8 => ?_
    refine TWp.sr fun K9 hK9 => ?_
    simp (disch := omega) only [seval, go_sem, h2, h3, h4, h5, o1, o2]
    repeat (refine ⟨by omega, ?_⟩)
    refine hK9 _ _ ?_; try (clear hK9; clear K9)
    refine TWp.cond rfl (fun hb => ?_) (fun hb => ?_)
    · try (replace hb := of_decide_eq_true hb)
      refine TWp.rk fun K10 hK10 => ?_
      simp (disch := omega) only [seval, go_sem, h2, h3, h4, h5, o1, o2]
      repeat (refine ⟨by omega, ?_⟩)
      refine c_godownref02_root_square ?_
      simp (disch := omega) only [seval, go_sem, h2, h3, h4, h5, o1, o2]
      repeat (refine ⟨by omega, ?_⟩)
      refine hK10 _ _ ?_; try (clear hK10; clear K10)
      refine hK8 _ _ ?_; try (clear hK8; clear K8)
      refine TWp.rk fun K11 hK11 => ?_
      simp (disch := omega) only [seval, go_sem, h2, h3, h4, h5, o1, o2]
      repeat (refine ⟨by omega, ?_⟩)
      refine c_godownref02_root_cube ?_
      simp (disch := omega) only [seval, go_sem, h2, h3, h4, h5, o1, o2]
      repeat (refine ⟨by omega, ?_⟩)
      refine hK11 _ _ ?_; try (clear hK11; clear K11)
      refine hK7 _ _ ?_; try (clear hK7; clear K7)
      refine TWp.rk fun K12 hK12 => ?_
      simp (disch := omega) only [seval, go_sem, h2, h3, h4, h5, o1, o2]
      repeat (refine ⟨by omega, ?_⟩)
      refine hK12 _ _ ?_; try (clear hK12; clear K12)
      refine ⟨n - 1, by omega, i + 1, S'.n, S'.n + 1, g, by omega, h2, ?_, ?_, rfl, ?_, ?_, ?_, ?_, push_self _ _, ((((hkeep.set g1 _).set g2 _).push' _).push' _), ?_, ?_⟩
      all_goals first
        | ((try simp only [TS.push_n, TS.set_n]); have := hkeep.1; omega)
        | (simp (disch := omega) only [seval, go_sem]; done)
        | exact congrArg (TV.sl _ 1) (by rw [tab_snoc _ _ _ (by omega), take8_get i (by omega)])
        | exact congrArg (TV.sl _ 1) (tab_snoc _ _ _ (by omega)).symm
    · try (replace hb := of_decide_eq_false hb)
      refine TWp.skip ?_
      refine hK8 _ _ ?_; try (clear hK8; clear K8)
      refine TWp.rk fun K13 hK13 => ?_
      simp (disch := omega) only [seval, go_sem, h2, h3, h4, h5, o1, o2]
      repeat (refine ⟨by omega, ?_⟩)
      refine c_godownref02_root_cube ?_
      simp (disch := omega) only [seval, go_sem, h2, h3, h4, h5, o1, o2]
      repeat (refine ⟨by omega, ?_⟩)
      refine hK13 _ _ ?_; try (clear hK13; clear K13)
      refine hK7 _ _ ?_; try (clear hK7; clear K7)
      refine TWp.rk fun K14 hK14 => ?_
      simp (disch := omega) only [seval, go_sem, h2, h3, h4, h5, o1, o2]
      repeat (refine ⟨by omega, ?_⟩)
      refine hK14 _ _ ?_; try (clear hK14; clear K14)
      refine ⟨n - 1, by omega, i + 1, t1, S'.n, g, by omega, h2, ?_, ?_, rfl, ?_, ?_, ?_, ?_, push_self _ _, ((hkeep.set g2 _).push' _), ?_, ?_⟩
      all_goals first
        | ((try simp only [TS.push_n, TS.set_n]); have := hkeep.1; omega)
        | (simp (disch := omega) only [seval, go_sem, o1]; done)
        | exact congrArg (TV.sl _ 1) (tab_snoc _ _ _ (by omega)).symm
        | exact h3.trans (by rw [List.take_of_length_le (i := i) (by omega), List.take_of_length_le (i := i + 1) (by omega)])
  · try (replace hb := of_decide_eq_false hb)
    refine TWp.exit ?_
    refine hK3 _ _ ?_; try (clear hK3; clear K3)
    refine TWp.sr fun K15 hK15 => ?_
    simp (disch := omega) only [seval, go_sem, h2, h3, h4, h5, o1, o2]
    repeat (refine ⟨by omega, ?_⟩)
    refine hK15 _ _ ?_; try (clear hK15; clear K15)
    obtain rfl : i = 64 := by omega
    refine TWp.ret ⟨.inr rfl, [_, _], ⟨rfl, rfl, trivial⟩, t1, t2, ?_, g1, g2, g3, o1, o2, hkeep⟩
    show TV.tup [.sl (.own t1) 1 _, .sl (.own t2) 1 _] = _
    rw [tabH, tabK, List.take_of_length_le (i := 64) (by omega)]
end Go.Proofs.YtoldjfappfbfbaaGreatDoor
namespace Go.Proofs.YtoldjfappfbfbaaGreatDoor
open Go.RowKit TL
theorem c_godownref02_Tables {S : TS} {K : TV → TS → Prop} (hK : K (.tup [.sl .none 1 (gD tabH), .sl .none 1 (gD tabK)]) S) : TCall env 104 [] S K :=
  (c_godownref02_Tables_ok S).forget fun t S1 hw ⟨t1, t2, h1, _, _, _, _, _, hk⟩ => ⟨[], _, S, .none hw hk, by rw [h1]; exact .tupF (.cons (.slN ..) (.cons (.slN ..) .nil)), hK⟩
set_option maxRecDepth 8000 in
theorem c_godownref02_New_ok (S : TS) : TCall env 58 [] S fun r S' => r = .agg [.sl .none 1 (gD tabH), .sl .none 1 (gD tabK)] ∧ Keep S S' := by
  refine TCall.of 10 [.cell 0 31] Tryz.func58 rfl rfl rfl rfl (by kernel_rfl) rfl ?_
  refine TWp.sr fun K0 hK0 => ?_
  simp (disch := omega) only [seval, go_sem]
  repeat (refine ⟨by omega, ?_⟩)
  refine hK0 _ _ ?_; try (clear hK0; clear K0)
  refine TWp.sr fun K1 hK1 => ?_
  simp (disch := omega) only [seval, go_sem]
  repeat (refine ⟨by omega, ?_⟩)
  refine c_godownref02_Tables ?_
  simp (disch := omega) only [seval, go_sem]
  repeat (refine ⟨by omega, ?_⟩)
  refine hK1 _ _ ?_; try (clear hK1; clear K1)
  refine TWp.sr fun K2 hK2 => ?_
  simp (disch := omega) only [seval, go_sem]
  repeat (refine ⟨by omega, ?_⟩)
  refine hK2 _ _ ?_; try (clear hK2; clear K2)
  exact TWp.ret ⟨.inr rfl, [.agg [.sl .none 1 (gD tabH), .sl .none 1 (gD tabK)]], ⟨resCell (id := S.n) rfl ti31 (push_self _ _) rfl rfl, trivial⟩, rfl, Keep.push S _⟩
theorem c_godownref02_New {S : TS} {K : TV → TS → Prop} (hK : K (.agg [.sl .none 1 (gD tabH), .sl .none 1 (gD tabK)]) S) : TCall env 58 [] S K :=
  (TCall.pure (c_godownref02_New_ok S) (.aggF (.cons (.slN ..) (.cons (.slN ..) .nil)))).mono fun t S' ⟨h1, h2⟩ => by rw [h1, h2]; exact hK
end Go.Proofs.YtoldjfappfbfbaaGreatDoor
namespace Go.Proofs.YtoldjfappfbfbaaGreatDoor
open Go.RowKit TL
set_option maxRecDepth 20000 in
theorem tabH_eq : tabH = fW := by
  unfold tabH primeB
  decide +kernel
set_option maxRecDepth 20000 in
theorem tabK_eq : tabK = kW := by
  unfold tabK primeB
  decide +kernel
theorem rot_tr (x : BitVec 32) : rot x (-6) = tr x 6 ∧ rot x (-11) = tr x 11 ∧ rot x (-25) = tr x 25 ∧ rot x (-2) = tr x 2 ∧ rot x (-13) = tr x 13 ∧ rot x (-22) = tr x 22 ∧ rot x (-7) = tr x 7 ∧ rot x (-18) = tr x 18 ∧ rot x (-17) = tr x 17 ∧ rot x (-19) = tr x 19 := by
  refine ⟨?_, ?_, ?_, ?_, ?_, ?_, ?_, ?_, ?_, ?_⟩ <;> exact BitVec.or_comm _ _
theorem most_eq (a b c : BitVec 32) : (a &&& b) ||| (c &&& (a ||| b)) = (a &&& b) ^^^ (a &&& c) ^^^ (b &&& c) := by
  apply BitVec.eq_of_getLsbD_eq
  intro i hi
  simp only [BitVec.getLsbD_or, BitVec.getLsbD_and, BitVec.getLsbD_xor]
  cases a.getLsbD i <;> cases b.getLsbD i <;> cases c.getLsbD i <;> rfl
theorem nat_word1 (x y z t : Nat) (hx : x < 256) (hy : y < 256) (hz : z < 256) (ht : t < 256) :
    (((x * 16777216 % 4294967296 + y * 65536 % 4294967296) % 4294967296 + z * 256 % 4294967296) % 4294967296 + t) % 4294967296 = x * 16777216 + (y * 65536 + (z * 256 + t)) := by omega
theorem nat_word2 (x y z t : Nat) (hx : x < 256) (hy : y < 256) (hz : z < 256) (ht : t < 256) :
    x <<< 24 ||| y <<< 16 ||| z <<< 8 ||| t = x * 16777216 + (y * 65536 + (z * 256 + t)) := by
  rw [Nat.or_assoc, Nat.or_assoc]
  rw [← Nat.shiftLeft_add_eq_or_of_lt (i := 8) (by omega) z]
  rw [← Nat.shiftLeft_add_eq_or_of_lt (i := 16) (by rw [Nat.shiftLeft_eq]; omega) y]
  rw [← Nat.shiftLeft_add_eq_or_of_lt (i := 24) (by rw [Nat.shiftLeft_eq, Nat.shiftLeft_eq]; omega) x]
  simp only [Nat.shiftLeft_eq]
theorem word_eq (a b c d : BitVec 8) : BitVec.setWidth 32 a * 16777216#32 + BitVec.setWidth 32 b * 65536#32 + BitVec.setWidth 32 c * 256#32 + BitVec.setWidth 32 d =
    (BitVec.setWidth 32 a) <<< 24 ||| (BitVec.setWidth 32 b) <<< 16 ||| (BitVec.setWidth 32 c) <<< 8 ||| (BitVec.setWidth 32 d) := by
  have ha := a.isLt
  have hb := b.isLt
  have hc := c.isLt
  have hd := d.isLt
  have e (v : BitVec 8) : (BitVec.setWidth 32 v).toNat = v.toNat := by rw [BitVec.toNat_setWidth]; exact Nat.mod_eq_of_lt (by have := v.isLt; omega)
  have f (v : BitVec 8) (k : Nat) (hk : k ≤ 24) : (BitVec.setWidth 32 v <<< k).toNat = v.toNat <<< k := by
    rw [BitVec.toNat_shiftLeft, e]
    refine Nat.mod_eq_of_lt ?_
    rw [Nat.shiftLeft_eq]
    have h1 := Nat.pow_le_pow_right (n := 2) (by omega) hk
    have h2 := Nat.mul_le_mul (show v.toNat ≤ 255 by have := v.isLt; omega) h1
    have h3 : 255 * 2 ^ 24 < 2 ^ 32 := by decide
    omega
  apply BitVec.eq_of_toNat_eq
  rw [BitVec.toNat_or, BitVec.toNat_or, BitVec.toNat_or, f a 24 (by omega), f b 16 (by omega), f c 8 (by omega), e d, nat_word2 _ _ _ _ ha hb hc hd, ← nat_word1 _ _ _ _ ha hb hc hd]
  rw [BitVec.toNat_add, BitVec.toNat_add, BitVec.toNat_add, BitVec.toNat_mul, BitVec.toNat_mul, BitVec.toNat_mul, e, e, e, e]
  rfl
end Go.Proofs.YtoldjfappfbfbaaGreatDoor
namespace Go.Proofs.YtoldjfappfbfbaaGreatDoor
open Go.RowKit TL
theorem getD_set_ne' {α : Type} (l : List α) (i j : Nat) (x d : α) (h : j ≠ i) : (l.set i x).getD j d = l.getD j d := by
  simp [List.getD_eq_getElem?_getD, List.getElem?_set, Ne.symm h]
theorem getD_set_eq' {α : Type} (l : List α) (i : Nat) (x d : α) (h : i < l.length) : (l.set i x).getD i d = x := by
  simp [List.getD_eq_getElem?_getD, List.getElem?_set, h]
theorem sched_get (p : List (BitVec 8)) : ∀ m j, j < m → m ≤ 64 → (sched p m).getD j 0 = wordStep p j (sched p j)
  | 0, j, h, _ => by omega
  | m + 1, j, h, hm => by
    rw [sched]
    by_cases hj : j = m
    · subst hj
      rw [getD_set_eq' _ _ _ _ (by rw [sched_len]; omega)]
    · rw [getD_set_ne' _ _ _ _ _ hj]
      exact sched_get p m j (by omega) (by omega)
theorem sched_take (p : List (BitVec 8)) (i j : Nat) (hj : j < i) (hi : i ≤ 64) : ((sched p 64).take i).getD j 0 = (sched p i).getD j 0 := by
  rw [sched_get p i j hj hi, ← sched_get p 64 j (by omega) (by omega)]
  simp [List.getD_eq_getElem?_getD, List.getElem?_take, hj]
theorem drop_take_get (q : List (BitVec 8)) (at_ i k : Nat) (h : 4 * i + k < 64) : ((q.drop at_).take 64).getD (4 * i + k) 0 = (q.drop (at_ + 4 * i)).getD k 0 := by
  simp only [List.getD_eq_getElem?_getD, List.getElem?_take, if_pos h, List.getElem?_drop, Nat.add_assoc]
theorem word_lo (q : List (BitVec 8)) (at_ i : Nat) (hi : i < 16) : (sched ((q.drop at_).take 64) 64).getD i 0 =
    BitVec.setWidth 32 ((q.drop (at_ + 4 * i)).getD 0 0#8) * 16777216#32 + BitVec.setWidth 32 ((q.drop (at_ + 4 * i)).getD 1 0#8) * 65536#32 + BitVec.setWidth 32 ((q.drop (at_ + 4 * i)).getD 2 0#8) * 256#32 + BitVec.setWidth 32 ((q.drop (at_ + 4 * i)).getD 3 0#8) := by
  rw [sched_get _ 64 i (by omega) (by omega), wordStep, if_pos hi, wordAt, word_eq]
  have h0 := drop_take_get q at_ i 0 (by omega)
  have h1 := drop_take_get q at_ i 1 (by omega)
  have h2 := drop_take_get q at_ i 2 (by omega)
  have h3 := drop_take_get q at_ i 3 (by omega)
  rw [Nat.add_zero] at h0
  rw [h0, h1, h2, h3]; rfl
theorem word_hi (b : List (BitVec 8)) (i : Nat) (h16 : 16 ≤ i) (hi : i < 64) : (sched b 64).getD i 0 =
    ((sched b 64).take i).getD (i - 16) 0#32 + (tr (((sched b 64).take i).getD (i - 15) 0#32) 7 ^^^ tr (((sched b 64).take i).getD (i - 15) 0#32) 18 ^^^ ((sched b 64).take i).getD (i - 15) 0#32 >>> 3) + ((sched b 64).take i).getD (i - 7) 0#32 +
      (tr (((sched b 64).take i).getD (i - 2) 0#32) 17 ^^^ tr (((sched b 64).take i).getD (i - 2) 0#32) 19 ^^^ ((sched b 64).take i).getD (i - 2) 0#32 >>> 10) := by
  have h1 := sched_take b i (i - 16) (by omega) (by omega)
  have h2 := sched_take b i (i - 15) (by omega) (by omega)
  have h3 := sched_take b i (i - 7) (by omega) (by omega)
  have h4 := sched_take b i (i - 2) (by omega) (by omega)
  have e := sched_get b 64 i (by omega) (by omega)
  rw [wordStep, if_neg (by omega), low, high, ← h1, ← h2, ← h3, ← h4, (rot_tr _).2.2.2.2.2.2.1, (rot_tr _).2.2.2.2.2.2.2.1, (rot_tr _).2.2.2.2.2.2.2.2.1, (rot_tr _).2.2.2.2.2.2.2.2.2] at e
  exact e
theorem turn_ref (bl : List (BitVec 8)) (hs : List (BitVec 32)) (i : Nat) (a b c d e f g x : BitVec 32) (h : turnUpto bl hs i = [a, b, c, d, e, f, g, x]) :
    turnUpto bl hs (i + 1) = [(x + (tr e 6 ^^^ tr e 11 ^^^ tr e 25) + (e &&& f ^^^ ~~~e &&& g) + kW.getD i 0#32 + (sched bl 64).getD i 0#32) + ((tr a 2 ^^^ tr a 13 ^^^ tr a 22) + (a &&& b ||| c &&& (a ||| b))), a, b, c, d + (x + (tr e 6 ^^^ tr e 11 ^^^ tr e 25) + (e &&& f ^^^ ~~~e &&& g) + kW.getD i 0#32 + (sched bl 64).getD i 0#32), e, f, g] := by
  rw [turnUpto, h]
  generalize sched bl 64 = w
  rw [most_eq]
  have e1 := rot_tr e
  have a1 := rot_tr a
  simp only [turnStep, List.getD_cons_zero, List.getD_cons_succ, e1, a1]
  simp only [List.take, splL, List.getD_cons_zero, List.getD_cons_succ, List.set_cons_zero, List.set_cons_succ]
  rw [BitVec.add_assoc]; rfl
theorem add_ref (h : List (BitVec 32)) (bl : List (BitVec 8)) (hh : h.length = 8) (a b c d e f g x : BitVec 32) (ht : turnUpto bl h 64 = [a, b, c, d, e, f, g, x]) :
    turn h bl = [h.getD 0 0#32 + a, h.getD 1 0#32 + b, h.getD 2 0#32 + c, h.getD 3 0#32 + d, h.getD 4 0#32 + e, h.getD 5 0#32 + f, h.getD 6 0#32 + g, h.getD 7 0#32 + x] := by
  rw [turn, ht]
  clear ht
  match h, hh with
  | [h0, h1, h2, h3, h4, h5, h6, h7], _ =>
    simp only [addUpto, List.getD_cons_zero, List.getD_cons_succ, List.set_cons_zero, List.set_cons_succ]
set_option maxRecDepth 20000 in
set_option maxHeartbeats 4000000 in
theorem c_godownref02_Sum_ok (S : TS) (g1 g2 g : Tag) (p : List (BitVec 8)) (hp : p.length ≤ 1000000) : TCall env 82 [.agg [.sl g1 1 (gD fW), .sl g2 1 (gD kW)], .sl g 1 (dB p)] S fun r S' => ∃ k, r = .sl (.own k) 1 (dB (sha p)) ∧ S.n ≤ k ∧ S'.objs k = .lin ∧ Keep S S' := by
  have hf8 := fW_len
  have hk64 := kW_len
  obtain ⟨PP, hPP⟩ : ∃ PP, PP = padding p := ⟨_, rfl⟩
  have hpm : PP.length ≤ p.length + 200 := by rw [hPP]; exact padding_max p
  have hpl : PP.length % 64 = 0 := by rw [hPP]; exact padding_len p
  refine TCall.of 306 [.tmp 4] Tryz.func82 rfl rfl rfl rfl (by kernel_rfl) rfl ?_
  refine TWp.sr fun K0 hK0 => ?_
  simp -implicitDefEqProofs (disch := omega) only [seval, go_sem]
  repeat (refine ⟨by omega, ?_⟩)
  refine hK0 _ _ ?_; try (clear hK0; clear K0)
  refine TWp.sr fun K1 hK1 => ?_
  simp -implicitDefEqProofs (disch := omega) only [seval, go_sem]
  repeat (refine ⟨by omega, ?_⟩)
  refine hK1 _ _ ?_; try (clear hK1; clear K1)
  refine TWp.sr fun K2 hK2 => ?_
  simp -implicitDefEqProofs (disch := omega) only [seval, go_sem]
  repeat (refine ⟨by omega, ?_⟩)
  refine hK2 _ _ ?_; try (clear hK2; clear K2)
  refine TWp.sr fun K3 hK3 => ?_
  simp -implicitDefEqProofs (disch := omega) only [seval, go_sem]
  repeat (refine ⟨by omega, ?_⟩)
  refine hK3 _ _ ?_; try (clear hK3; clear K3)
  refine TWp.seq_k fun K4 hK4 => ?_
  refine TWp.block ?_
  refine TWp.loop (fun n T S' => ∃ xs k, T 1 = .sl g 1 (dB p) ∧ T 2 = .ptr S.n 0 ∧ T 5 = .sl (.own k) 1 (dB xs) ∧ S'.objs k = .lin ∧ S.n < k ∧ S'.objs S.n = .cells 31 [.sl g1 1 (gD fW), .sl g2 1 (gD kW)] ∧ S.n < S'.n ∧ Keep S S' ∧ xs.length + n ≤ 1000100 ∧ n = nought xs ∧ xs ++ List.replicate n 0#8 = (p ++ [128#8]) ++ List.replicate (nought (p ++ [128#8])) 0#8) (nought (p ++ [128#8])) ?_ ?_
  · refine ⟨p ++ [128#8], S.n + 1 + 1, rfl, rfl, by rw [dB_app]; rfl, push_self _ _, by omega, (push_lt (by simp only [TS.push_n]; omega)).trans ((push_lt (by simp only [TS.push_n]; omega)).trans (push_self _ _)), by simp only [TS.push_n]; omega, ((Keep.push S _).push' _).push' _, ?_, rfl, rfl⟩
    simp [nought]; omega
  rintro n T S' ⟨xs, k, h1, h2, h5, o5, b5, o0, bn, hkeep, hlen, hn, hxs⟩
  refine TWp.seq_k fun K5 hK5 => ?_
  refine TWp.sr fun K6 hK6 => ?_
  simp -implicitDefEqProofs (disch := omega) only [seval, go_sem, h1, h2, h5, o5, o0]
  repeat (refine ⟨by omega, ?_⟩)
  refine hK6 _ _ ?_; try (clear hK6; clear K6)
  refine TWp.cond_k fun K7 hK7 => ?_
  simp -implicitDefEqProofs (disch := omega) only [seval, go_sem, h1, h2, h5, o5, o0]
  refine hK7 _ (fun hb => ?_) (fun hb => ?_) <;> clear hK7 <;> clear K7
  · try (replace hb := of_decide_eq_true hb)
    refine TWp.skip ?_
    refine hK5 _ _ ?_; try (clear hK5; clear K5)
    refine TWp.block ?_
    refine TWp.rk fun K8 hK8 => ?_
    simp -implicitDefEqProofs (disch := omega) only [seval, go_sem, h1, h2, h5, o5, o0]
    repeat (refine ⟨by omega, ?_⟩)
    refine hK8 _ _ ?_; try (clear hK8; clear K8)
    have h1n : nought xs = nought (xs ++ [0#8]) + 1 := by simp [nought]; omega
    refine ⟨nought (xs ++ [0#8]), by omega, xs ++ [0#8], S'.n, h1, h2, by rw [dB_app]; rfl, push_self _ _, bn, (setpush_lt bn (by omega)).trans o0, Nat.lt_succ_of_lt bn, (hkeep.set (by omega) _).push' _, by simp; omega, rfl, ?_⟩
    rw [← hxs, hn, h1n, List.replicate_succ]; simp
  · try (replace hb := of_decide_eq_false hb)
    refine TWp.exit ?_
    refine hK4 _ _ ?_; try (clear hK4; clear K4)
    refine TWp.sr fun K9 hK9 => ?_
    simp -implicitDefEqProofs (disch := omega) only [seval, go_sem, h1, h2, h5, o5, o0]
    repeat (refine ⟨by omega, ?_⟩)
    refine hK9 _ _ ?_; try (clear hK9; clear K9)
    refine TWp.seq_k fun K10 hK10 => ?_
    refine TWp.sr fun K11 hK11 => ?_
    simp -implicitDefEqProofs (disch := omega) only [seval, go_sem, h1, h2, h5, o5, o0]
    repeat (refine ⟨by omega, ?_⟩)
    refine hK11 _ _ ?_; try (clear hK11; clear K11)
    refine TWp.block ?_
    refine TWp.loop (fun n T S' => ∃ ys k i, n + i = 8 ∧ T 1 = .sl g 1 (dB p) ∧ T 2 = .ptr S.n 0 ∧ T 6 = .lit (w64 (BitVec.ofNat 64 p.length * 8#64)) ∧ T 7 = .lit (.int .i64 (i : Int)) ∧ T 5 = .sl (.own k) 1 (dB ys) ∧ S'.objs k = .lin ∧ S.n < k ∧ S'.objs S.n = .cells 31 [.sl g1 1 (gD fW), .sl g2 1 (gD kW)] ∧ S.n < S'.n ∧ Keep S S' ∧ ys.length + n ≤ 1000300 ∧ ys ++ lenBytes (BitVec.ofNat 64 p.length * 8#64) n = PP) (8) ?_ ?_
    · have hn0 : n = 0 := by rw [hn]; simp only [nought]; omega
      subst hn0
      refine ⟨xs, k, 0, rfl, h1, h2, rfl, rfl, h5, o5, b5, o0, bn, hkeep, by omega, ?_⟩
      rw [hPP, padding, ← hxs]; simp
    rintro n T S' ⟨ys, k, i, hi, h1, h2, h6, h7, h5, o5, b5, o0, bn, hkeep, hlen, hys⟩
    refine TWp.seq_k fun K12 hK12 => ?_
    refine TWp.sr fun K13 hK13 => ?_
    simp -implicitDefEqProofs (disch := omega) only [seval, go_sem, h1, h2, h5, h6, h7, o5, o0]
    repeat (refine ⟨by omega, ?_⟩)
    refine hK13 _ _ ?_; try (clear hK13; clear K13)
    refine TWp.cond_k fun K14 hK14 => ?_
    simp -implicitDefEqProofs (disch := omega) only [seval, go_sem, h1, h2, h5, h6, h7, o5, o0]
    refine hK14 _ (fun hb => ?_) (fun hb => ?_) <;> clear hK14 <;> clear K14
    · try (replace hb := of_decide_eq_true hb)
      refine TWp.skip ?_
      refine hK12 _ _ ?_; try (clear hK12; clear K12)
      refine TWp.seq_k fun K15 hK15 => ?_
      refine TWp.block ?_
      refine TWp.rk fun K16 hK16 => ?_
      simp -implicitDefEqProofs (disch := omega) only [seval, go_sem, h1, h2, h5, h6, h7, o5, o0]
      repeat (refine ⟨by omega, ?_⟩)
      refine hK16 _ _ ?_; try (clear hK16; clear K16)
      refine hK15 _ _ ?_; try (clear hK15; clear K15)
      refine TWp.rk fun K17 hK17 => ?_
      simp -implicitDefEqProofs (disch := omega) only [seval, go_sem, h1, h2, h5, h6, h7, o5, o0]
      repeat (refine ⟨by omega, ?_⟩)
      refine hK17 _ _ ?_; try (clear hK17; clear K17)
      obtain ⟨j, rfl⟩ : ∃ j, n = j + 1 := ⟨n - 1, by omega⟩
      have he : 56 - 8 * i = 8 * j := by omega
      refine ⟨j, by omega, ys ++ [((BitVec.ofNat 64 p.length * 8#64) >>> (8 * j)).setWidth 8], S'.n, i + 1, by omega, h1, h2, h6, rfl, ?_, push_self _ _, bn, (setpush_lt bn (by omega)).trans o0, Nat.lt_succ_of_lt bn, (hkeep.set (by omega) _).push' _, by simp; omega, ?_⟩
      · rw [dB_app, he]; rfl
      · rw [← hys]; simp [lenBytes]
    · try (replace hb := of_decide_eq_false hb)
      refine TWp.exit ?_
      refine hK10 _ _ ?_; try (clear hK10; clear K10)
      refine TWp.sr fun K18 hK18 => ?_
      simp -implicitDefEqProofs (disch := omega) only [seval, go_sem, h1, h2, h5, h6, h7, o5, o0]
      repeat (refine ⟨by omega, ?_⟩)
      refine hK18 _ _ ?_; try (clear hK18; clear K18)
      refine TWp.seq_k fun K19 hK19 => ?_
      refine TWp.sr fun K20 hK20 => ?_
      simp -implicitDefEqProofs (disch := omega) only [seval, go_sem, h1, h2, h5, h6, h7, o5, o0]
      repeat (refine ⟨by omega, ?_⟩)
      refine hK20 _ _ ?_; try (clear hK20; clear K20)
      refine TWp.block ?_
      refine TWp.loop (fun n T S' => ∃ at_ h g5 g8, at_ + 64 * n = PP.length ∧ h.length = 8 ∧ sumN n h (PP.drop at_) = sumN (PP.length / 64) fW PP ∧ T 9 = .lit (.int .i64 (at_ : Int)) ∧ T 2 = .ptr S.n 0 ∧ T 5 = .sl g5 1 (dB PP) ∧ T 8 = .sl g8 1 (gD h) ∧ S'.objs S.n = .cells 31 [.sl g1 1 (gD fW), .sl g2 1 (gD kW)] ∧ S.n < S'.n ∧ Keep S S') (PP.length / 64) ?_ ?_
      · have hn0 : n = 0 := by omega
        have hy : ys = PP := by rw [← hys, hn0]; simp [lenBytes]
        exact ⟨0, fW, _, _, by omega, fW_len, by simp, rfl, h2, by rw [← hy]; exact h5, rfl, (push_lt bn).trans o0, Nat.lt_succ_of_lt bn, hkeep.push' _⟩
      rintro n T S' ⟨at_, h, g5, g8, hat, hh, hsum, h9, h2, h5, h8, o0, bn, hkeep⟩
      obtain ⟨n3, rfl⟩ : ∃ n3, n3 = n := ⟨n, rfl⟩
      obtain ⟨W, hW⟩ : ∃ W, W = sched ((PP.drop at_).take 64) 64 := ⟨_, rfl⟩
      have hsl : W.length = 64 := by rw [hW]; exact sched_len _ 64
      refine TWp.seq_k fun K21 hK21 => ?_
      refine TWp.sr fun K22 hK22 => ?_
      simp -implicitDefEqProofs (disch := omega) only [seval, go_sem, h2, h5, h8, h9, o0]
      repeat (refine ⟨by omega, ?_⟩)
      refine hK22 _ _ ?_; try (clear hK22; clear K22)
      refine TWp.cond_k fun K23 hK23 => ?_
      simp -implicitDefEqProofs (disch := omega) only [seval, go_sem, h2, h5, h8, h9, o0]
      refine hK23 _ (fun hb => ?_) (fun hb => ?_) <;> clear hK23 <;> clear K23
      · try (replace hb := of_decide_eq_true hb)
        refine TWp.skip ?_
        refine hK21 _ _ ?_; try (clear hK21; clear K21)
        refine TWp.seq_k fun K24 hK24 => ?_
        refine TWp.block ?_
        refine TWp.sr fun K25 hK25 => ?_
        simp -implicitDefEqProofs (disch := omega) only [seval, go_sem, h2, h5, h8, h9, o0]
        repeat (refine ⟨by omega, ?_⟩)
        refine hK25 _ _ ?_; try (clear hK25; clear K25)
        refine TWp.seq_k fun K26 hK26 => ?_
        refine TWp.sr fun K27 hK27 => ?_
        simp -implicitDefEqProofs (disch := omega) only [seval, go_sem, h2, h5, h8, h9, o0]
        repeat (refine ⟨by omega, ?_⟩)
        refine hK27 _ _ ?_; try (clear hK27; clear K27)
        refine TWp.block ?_
        refine TWp.asRow 10 1 rfl (.inl rfl) ?_
        refine TWp.loop (fun n T S' => ∃ i k, n + i = 64 ∧ T 11 = .lit (.int .i64 (i : Int)) ∧ T 10 = .sl (.own k) 1 (gD (W.take i)) ∧ S'.objs k = .lin ∧ S.n < k ∧ T 9 = .lit (.int .i64 (at_ : Int)) ∧ T 2 = .ptr S.n 0 ∧ T 5 = .sl g5 1 (dB PP) ∧ T 8 = .sl g8 1 (gD h) ∧ S'.objs S.n = .cells 31 [.sl g1 1 (gD fW), .sl g2 1 (gD kW)] ∧ S.n < S'.n ∧ Keep S S') (64) ?_ ?_
        · exact ⟨0, S'.n, rfl, rfl, rfl, push_self _ _, bn, h9, h2, h5, h8, (push_lt bn).trans o0, Nat.lt_succ_of_lt bn, hkeep.push' _⟩
        rintro n T S' ⟨i, k, hi, h11, h10, o10, b10, h9, h2, h5, h8, o0, bn, hkeep⟩
        have htl : (W.take i).length = min i W.length := List.length_take
        have hdl : (PP.drop (at_ + 4 * i)).length = PP.length - (at_ + 4 * i) := List.length_drop
        refine TWp.seq_k fun K28 hK28 => ?_
        refine TWp.sr fun K29 hK29 => ?_
        simp -implicitDefEqProofs (disch := omega) only [seval, go_sem, h2, h5, h8, h9, h10, h11, o0, o10]
        repeat (refine ⟨by omega, ?_⟩)
        refine hK29 _ _ ?_; try (clear hK29; clear K29)
        refine TWp.cond_k fun K30 hK30 => ?_
        simp -implicitDefEqProofs (disch := omega) only [seval, go_sem, h2, h5, h8, h9, h10, h11, o0, o10]
        refine hK30 _ (fun hb => ?_) (fun hb => ?_) <;> clear hK30 <;> clear K30
        · try (replace hb := of_decide_eq_true hb)
          refine TWp.skip ?_
          refine hK28 _ _ ?_; try (clear hK28; clear K28)
          refine TWp.seq_k fun K31 hK31 => ?_
          refine TWp.block ?_
          refine TWp.sr fun K32 hK32 => ?_
          simp -implicitDefEqProofs (disch := omega) only [seval, go_sem, h2, h5, h8, h9, h10, h11, o0, o10]
          repeat (refine ⟨by omega, ?_⟩)
          refine hK32 _ _ ?_; try (clear hK32; clear K32)
          refine TWp.cond_k fun K33 hK33 => ?_
          simp -implicitDefEqProofs (disch := omega) only [seval, go_sem, h2, h5, h8, h9, h10, h11, o0, o10]
          refine hK33 _ (fun hb => ?_) (fun hb => ?_) <;> clear hK33 <;> clear K33
          · try (replace hb := of_decide_eq_true hb)
            refine TWp.sr fun K34 hK34 => ?_
            simp -implicitDefEqProofs (disch := omega) only [seval, go_sem, h2, h5, h8, h9, h10, h11, o0, o10]
            repeat (refine ⟨by omega, ?_⟩)
            refine hK34 _ _ ?_; try (clear hK34; clear K34)
            refine TWp.dk [(0, 0), (1, 0), (2, 0), (3, 0), (4, 0), (5, 0), (6, 0), (7, 0), (8, 0), (9, 0), (10, 0), (11, 0), (12, 0), (13, 0), (14, 0), (15, 0), (16, 0), (17, 0), (18, 0), (19, 0), (20, 0), (21, 0), (22, 0), (23, 1), (24, 2), (25, 0)] follows (by kernel_rfl) fun K35 hK35 => ?_
            simp -implicitDefEqProofs (disch := omega) only [seval, go_sem, h2, h5, h8, h9, h10, h11, o0, o10]
            repeat (refine ⟨by omega, ?_⟩)
            refine hK35 _ _ ?_; try (clear hK35; clear K35)
            refine hK31 _ _ ?_; try (clear hK31; clear K31)
            refine TWp.rk fun K36 hK36 => ?_
            simp -implicitDefEqProofs (disch := omega) only [seval, go_sem, h2, h5, h8, h9, h10, h11, o0, o10]
            repeat (refine ⟨by omega, ?_⟩)
            refine hK36 _ _ ?_; try (clear hK36; clear K36)
            refine ⟨n - 1, by omega, i + 1, S'.n, by omega, rfl, ?_, push_self _ _, bn, h9, h2, h5, h8, (setpush_lt bn (by omega)).trans o0, Nat.lt_succ_of_lt bn, (hkeep.set (by omega) _).push' _⟩
            rw [take_succ_getD 0 (show i < W.length by omega), gD_app, hW, word_lo PP at_ i (by omega), ← hW]; rfl
          · try (replace hb := of_decide_eq_false hb)
            refine TWp.sd [(0, 0), (1, 0), (2, 0), (3, 0), (4, 0), (5, 0), (6, 0), (7, 0), (8, 0), (9, 0), (10, 0), (11, 0)] follows (by kernel_rfl) fun K37 hK37 => ?_
            simp -implicitDefEqProofs (disch := omega) only [seval, go_sem, h2, h5, h8, h9, h10, h11, o0, o10]
            repeat (refine ⟨by omega, ?_⟩)
            refine hK37 _ _ ?_; try (clear hK37; clear K37)
            refine TWp.dk [(0, 0), (1, 0), (2, 0), (3, 0), (4, 0), (5, 0), (6, 0), (8, 0), (11, 0), (12, 0), (15, 0), (16, 0), (17, 0), (18, 0), (19, 0), (21, 0), (23, 0), (26, 0), (27, 0), (7, 1), (9, 1), (10, 0), (13, 0), (14, 0), (20, 0), (22, 1), (24, 1), (25, 0), (28, 0), (29, 0), (30, 1), (31, 2), (32, 0)] follows (by kernel_rfl) fun K38 hK38 => ?_
            simp -implicitDefEqProofs (disch := omega) only [seval, go_sem, h2, h5, h8, h9, h10, h11, o0, o10]
            repeat (refine ⟨by omega, ?_⟩)
            refine c_godownref02_turned ?_
            simp -implicitDefEqProofs (disch := omega) only [seval, go_sem, h2, h5, h8, h9, h10, h11, o0, o10]
            repeat (refine ⟨by omega, ?_⟩)
            refine c_godownref02_turned ?_
            simp -implicitDefEqProofs (disch := omega) only [seval, go_sem, h2, h5, h8, h9, h10, h11, o0, o10]
            repeat (refine ⟨by omega, ?_⟩)
            refine c_godownref02_turned ?_
            simp -implicitDefEqProofs (disch := omega) only [seval, go_sem, h2, h5, h8, h9, h10, h11, o0, o10]
            repeat (refine ⟨by omega, ?_⟩)
            refine c_godownref02_turned ?_
            simp -implicitDefEqProofs (disch := omega) only [seval, go_sem, h2, h5, h8, h9, h10, h11, o0, o10]
            repeat (refine ⟨by omega, ?_⟩)
            refine hK38 _ _ ?_; try (clear hK38; clear K38)
            refine hK31 _ _ ?_; try (clear hK31; clear K31)
            refine TWp.rk fun K39 hK39 => ?_
            simp -implicitDefEqProofs (disch := omega) only [seval, go_sem, h2, h5, h8, h9, h10, h11, o0, o10]
            repeat (refine ⟨by omega, ?_⟩)
            refine hK39 _ _ ?_; try (clear hK39; clear K39)
            refine ⟨n - 1, by omega, i + 1, S'.n, by omega, rfl, ?_, push_self _ _, bn, h9, h2, h5, h8, (setpush_lt bn (by omega)).trans o0, Nat.lt_succ_of_lt bn, (hkeep.set (by omega) _).push' _⟩
            rw [take_succ_getD 0 (show i < W.length by omega), gD_app, hW, word_hi _ i (by omega) (by omega), ← hW]; rfl
        · try (replace hb := of_decide_eq_false hb)
          refine TWp.exit ?_
          refine hK26 _ _ ?_; try (clear hK26; clear K26)
          refine TWp.sd [(0, 0), (1, 0), (2, 0), (3, 0), (4, 0), (5, 0), (6, 0), (7, 0), (8, 0), (9, 0), (10, 0), (11, 0), (12, 0), (13, 0), (14, 0), (15, 0), (16, 0), (17, 0), (18, 0), (19, 0), (20, 0), (21, 0), (22, 0), (23, 0), (24, 0), (25, 0), (26, 0), (27, 0), (28, 0), (29, 0), (30, 0), (31, 0)] follows (by kernel_rfl) fun K40 hK40 => ?_
          simp -implicitDefEqProofs (disch := omega) only [seval, go_sem, h2, h5, h8, h9, h10, h11, o0, o10]
          repeat (refine ⟨by omega, ?_⟩)
          refine hK40 _ _ ?_; try (clear hK40; clear K40)
          refine TWp.seq_k fun K41 hK41 => ?_
          refine TWp.sr fun K42 hK42 => ?_
          simp -implicitDefEqProofs (disch := omega) only [seval, go_sem, h2, h5, h8, h9, h10, h11, o0, o10]
          repeat (refine ⟨by omega, ?_⟩)
          refine hK42 _ _ ?_; try (clear hK42; clear K42)
          refine TWp.block ?_
          refine TWp.loop (fun n T S' => ∃ i a b c d e f g x gw, n + i = 64 ∧ turnUpto ((PP.drop at_).take 64) h i = [a, b, c, d, e, f, g, x] ∧ T 15 = .lit (w32 a) ∧ T 16 = .lit (w32 b) ∧ T 17 = .lit (w32 c) ∧ T 18 = .lit (w32 d) ∧ T 19 = .lit (w32 e) ∧ T 20 = .lit (w32 f) ∧ T 21 = .lit (w32 g) ∧ T 22 = .lit (w32 x) ∧ T 23 = .lit (.int .i64 (i : Int)) ∧ T 10 = .sl gw 1 (gD W) ∧ T 9 = .lit (.int .i64 (at_ : Int)) ∧ T 2 = .ptr S.n 0 ∧ T 5 = .sl g5 1 (dB PP) ∧ T 8 = .sl g8 1 (gD h) ∧ S'.objs S.n = .cells 31 [.sl g1 1 (gD fW), .sl g2 1 (gD kW)] ∧ S.n < S'.n ∧ Keep S S') (64) ?_ ?_
          · have hi64 : i = 64 := by omega
            have hWt : W.take i = W := by rw [hi64]; exact List.take_of_length_le (by omega)
            refine ⟨0, _, _, _, _, _, _, _, _, _, rfl, ?_, rfl, rfl, rfl, rfl, rfl, rfl, rfl, rfl, rfl, by rw [← hWt]; exact h10, h9, h2, h5, h8, o0, bn, hkeep⟩
            clear hK26
            match h, hh with
            | [q0, q1, q2, q3, q4, q5, q6, q7], _ => rfl
          rintro n T S' ⟨i, a, b, c, d, e, f, gg, x, gw, hi, htu, h15, h16, h17, h18, h19, h20, h21, h22, h23, h10, h9, h2, h5, h8, o0, bn, hkeep⟩
          refine TWp.seq_k fun K43 hK43 => ?_
          refine TWp.sr fun K44 hK44 => ?_
          simp -implicitDefEqProofs (disch := omega) only [seval, go_sem, h2, h5, h8, h9, h10, h15, h16, h17, h18, h19, h20, h21, h22, h23, o0]
          repeat (refine ⟨by omega, ?_⟩)
          refine hK44 _ _ ?_; try (clear hK44; clear K44)
          refine TWp.cond_k fun K45 hK45 => ?_
          simp -implicitDefEqProofs (disch := omega) only [seval, go_sem, h2, h5, h8, h9, h10, h15, h16, h17, h18, h19, h20, h21, h22, h23, o0]
          refine hK45 _ (fun hb => ?_) (fun hb => ?_) <;> clear hK45 <;> clear K45
          · try (replace hb := of_decide_eq_true hb)
            refine TWp.skip ?_
            refine hK43 _ _ ?_; try (clear hK43; clear K43)
            refine TWp.seq_k fun K46 hK46 => ?_
            refine TWp.block ?_
            refine TWp.sd [(0, 0), (1, 0), (3, 0), (6, 0), (10, 0), (11, 0), (12, 0), (13, 0), (14, 0), (15, 0), (16, 0), (17, 0), (19, 0), (20, 0), (21, 0), (22, 0), (23, 0), (25, 0), (26, 0), (27, 0), (28, 0), (2, 1), (4, 1), (5, 0), (7, 1), (8, 0), (9, 0), (18, 0), (24, 0), (29, 0), (30, 0)] follows (by kernel_rfl) fun K47 hK47 => ?_
            simp -implicitDefEqProofs (disch := omega) only [seval, go_sem, h2, h5, h8, h9, h10, h15, h16, h17, h18, h19, h20, h21, h22, h23, o0]
            repeat (refine ⟨by omega, ?_⟩)
            refine c_godownref02_turned ?_
            simp -implicitDefEqProofs (disch := omega) only [seval, go_sem, h2, h5, h8, h9, h10, h15, h16, h17, h18, h19, h20, h21, h22, h23, o0]
            repeat (refine ⟨by omega, ?_⟩)
            refine c_godownref02_turned ?_
            simp -implicitDefEqProofs (disch := omega) only [seval, go_sem, h2, h5, h8, h9, h10, h15, h16, h17, h18, h19, h20, h21, h22, h23, o0]
            repeat (refine ⟨by omega, ?_⟩)
            refine c_godownref02_turned ?_
            simp -implicitDefEqProofs (disch := omega) only [seval, go_sem, h2, h5, h8, h9, h10, h15, h16, h17, h18, h19, h20, h21, h22, h23, o0]
            repeat (refine ⟨by omega, ?_⟩)
            refine hK47 _ _ ?_; try (clear hK47; clear K47)
            refine TWp.sr fun K48 hK48 => ?_
            simp -implicitDefEqProofs (disch := omega) only [seval, go_sem, h2, h5, h8, h9, h10, h15, h16, h17, h18, h19, h20, h21, h22, h23, o0]
            repeat (refine ⟨by omega, ?_⟩)
            refine c_godownref02_turned ?_
            simp -implicitDefEqProofs (disch := omega) only [seval, go_sem, h2, h5, h8, h9, h10, h15, h16, h17, h18, h19, h20, h21, h22, h23, o0]
            repeat (refine ⟨by omega, ?_⟩)
            refine c_godownref02_turned ?_
            simp -implicitDefEqProofs (disch := omega) only [seval, go_sem, h2, h5, h8, h9, h10, h15, h16, h17, h18, h19, h20, h21, h22, h23, o0]
            repeat (refine ⟨by omega, ?_⟩)
            refine c_godownref02_turned ?_
            simp -implicitDefEqProofs (disch := omega) only [seval, go_sem, h2, h5, h8, h9, h10, h15, h16, h17, h18, h19, h20, h21, h22, h23, o0]
            repeat (refine ⟨by omega, ?_⟩)
            refine hK48 _ _ ?_; try (clear hK48; clear K48)
            refine TWp.rk fun K49 hK49 => ?_
            simp -implicitDefEqProofs (disch := omega) only [seval, go_sem, h2, h5, h8, h9, h10, h15, h16, h17, h18, h19, h20, h21, h22, h23, o0]
            repeat (refine ⟨by omega, ?_⟩)
            refine hK49 _ _ ?_; try (clear hK49; clear K49)
            refine hK46 _ _ ?_; try (clear hK46; clear K46)
            refine TWp.rk fun K50 hK50 => ?_
            simp -implicitDefEqProofs (disch := omega) only [seval, go_sem, h2, h5, h8, h9, h10, h15, h16, h17, h18, h19, h20, h21, h22, h23, o0]
            repeat (refine ⟨by omega, ?_⟩)
            refine hK50 _ _ ?_; try (clear hK50; clear K50)
            refine ⟨n - 1, by omega, i + 1, _, _, _, _, _, _, _, _, gw, by omega, turn_ref _ _ _ _ _ _ _ _ _ _ _ htu, ?_, rfl, rfl, rfl, ?_, rfl, rfl, rfl, rfl, h10, h9, h2, h5, h8, o0, bn, hkeep⟩
            · rw [← hW]; rfl
            · rw [← hW]; rfl
          · try (replace hb := of_decide_eq_false hb)
            refine TWp.exit ?_
            refine hK41 _ _ ?_; try (clear hK41; clear K41)
            refine TWp.dk [(0, 0), (1, 0), (2, 0), (3, 0), (4, 0), (5, 0), (6, 0), (7, 0), (8, 0), (9, 0), (10, 0), (11, 0), (12, 0), (13, 0), (14, 0), (15, 0), (16, 0), (17, 0), (18, 0), (19, 0), (20, 0), (21, 0), (22, 0), (23, 0), (24, 0), (25, 0), (26, 0), (27, 0), (28, 0), (29, 0), (30, 0), (31, 0), (32, 0), (33, 0), (34, 0), (35, 0), (36, 0), (37, 0), (38, 0), (39, 0), (40, 2), (41, 0)] follows (by kernel_rfl) fun K51 hK51 => ?_
            simp -implicitDefEqProofs (disch := omega) only [seval, go_sem, h2, h5, h8, h9, h10, h15, h16, h17, h18, h19, h20, h21, h22, h23, o0]
            repeat (refine ⟨by omega, ?_⟩)
            refine hK51 _ _ ?_; try (clear hK51; clear K51)
            refine hK24 _ _ ?_; try (clear hK24; clear K24)
            refine TWp.rk fun K52 hK52 => ?_
            simp -implicitDefEqProofs (disch := omega) only [seval, go_sem, h2, h5, h8, h9, h10, h15, h16, h17, h18, h19, h20, h21, h22, h23, o0]
            repeat (refine ⟨by omega, ?_⟩)
            refine hK52 _ _ ?_; try (clear hK52; clear K52)
            obtain ⟨m3, rfl⟩ : ∃ m3, n3 = m3 + 1 := ⟨n3 - 1, by omega⟩
            have hi64 : i = 64 := by omega
            subst hi64
            refine ⟨m3, by omega, at_ + 64, _, g5, .full, by omega, turn_len h ((PP.drop at_).take 64) hh, ?_, rfl, h2, h5, ?_, o0, bn, hkeep⟩
            · rw [← hsum, sumN, List.drop_drop]
            · rw [add_ref h _ hh _ _ _ _ _ _ _ _ htu]; rfl
      · try (replace hb := of_decide_eq_false hb)
        refine TWp.exit ?_
        refine hK19 _ _ ?_; try (clear hK19; clear K19)
        refine TWp.sr fun K53 hK53 => ?_
        simp -implicitDefEqProofs (disch := omega) only [seval, go_sem, h2, h5, h8, h9, o0]
        repeat (refine ⟨by omega, ?_⟩)
        refine hK53 _ _ ?_; try (clear hK53; clear K53)
        refine TWp.seq_k fun K54 hK54 => ?_
        refine TWp.sr fun K55 hK55 => ?_
        simp -implicitDefEqProofs (disch := omega) only [seval, go_sem, h2, h5, h8, h9, o0]
        repeat (refine ⟨by omega, ?_⟩)
        refine hK55 _ _ ?_; try (clear hK55; clear K55)
        refine TWp.block ?_
        refine TWp.asRow 26 1 rfl (.inl rfl) ?_
        refine TWp.loop (fun n T S' => ∃ i k, n + i = 8 ∧ T 8 = .sl g8 1 (gD h) ∧ T 27 = .lit (.int .i64 (i : Int)) ∧ T 26 = .sl (.own k) 1 (dB (wordsB (h.take i))) ∧ S'.objs k = .lin ∧ S.n ≤ k ∧ Keep S S') (8) ?_ ?_
        · exact ⟨0, S'.n, rfl, h8, rfl, rfl, push_self _ _, by omega, hkeep.push' _⟩
        rintro n T S' ⟨i, k, hi, h8, h27, h26, o26, b26, hkeep⟩
        have hwl := wordsB_len (h.take i)
        have hil : (h.take i).length = min i h.length := List.length_take
        refine TWp.seq_k fun K56 hK56 => ?_
        refine TWp.sr fun K57 hK57 => ?_
        simp -implicitDefEqProofs (disch := omega) only [seval, go_sem, h8, h26, h27, o26]
        repeat (refine ⟨by omega, ?_⟩)
        refine hK57 _ _ ?_; try (clear hK57; clear K57)
        refine TWp.cond_k fun K58 hK58 => ?_
        simp -implicitDefEqProofs (disch := omega) only [seval, go_sem, h8, h26, h27, o26]
        refine hK58 _ (fun hb => ?_) (fun hb => ?_) <;> clear hK58 <;> clear K58
        · try (replace hb := of_decide_eq_true hb)
          refine TWp.skip ?_
          refine hK56 _ _ ?_; try (clear hK56; clear K56)
          refine TWp.seq_k fun K59 hK59 => ?_
          refine TWp.block ?_
          refine TWp.dk [(0, 0), (1, 0), (2, 0), (3, 0), (4, 0), (5, 0), (6, 0), (7, 0), (8, 0), (9, 0), (10, 0), (11, 0), (12, 0), (13, 0), (14, 0), (15, 0), (16, 0), (17, 0), (18, 0), (19, 0), (20, 0), (21, 0), (22, 0), (23, 0), (24, 1), (25, 2), (26, 0)] follows (by kernel_rfl) fun K60 hK60 => ?_
          simp -implicitDefEqProofs (disch := omega) only [seval, go_sem, h8, h26, h27, o26]
          repeat (refine ⟨by omega, ?_⟩)
          refine hK60 _ _ ?_; try (clear hK60; clear K60)
          refine hK59 _ _ ?_; try (clear hK59; clear K59)
          refine TWp.rk fun K61 hK61 => ?_
          simp -implicitDefEqProofs (disch := omega) only [seval, go_sem, h8, h26, h27, o26]
          repeat (refine ⟨by omega, ?_⟩)
          refine hK61 _ _ ?_; try (clear hK61; clear K61)
          refine ⟨n - 1, by omega, i + 1, S'.n, by omega, h8, rfl, ?_, push_self _ _, hkeep.1, (hkeep.set b26 _).push' _⟩
          rw [wordsB_snoc h i (by omega), dB_app]; rfl
        · try (replace hb := of_decide_eq_false hb)
          refine TWp.exit ?_
          refine hK54 _ _ ?_; try (clear hK54; clear K54)
          refine TWp.sr fun K62 hK62 => ?_
          simp -implicitDefEqProofs (disch := omega) only [seval, go_sem, h8, h26, h27, o26]
          repeat (refine ⟨by omega, ?_⟩)
          refine hK62 _ _ ?_; try (clear hK62; clear K62)
          refine TWp.ret ⟨.inr rfl, [_], ⟨rfl, trivial⟩, ?_⟩
          have hn30 : n3 = 0 := by omega
          subst hn30
          refine ⟨k, ?_, b26, o26, hkeep⟩
          have hh8 : i = 8 := by omega
          have hht : h.take i = h := List.take_of_length_le (by omega)
          rw [sha, ← hPP, ← hsum]; rfl
theorem c_godownref02_Sum {S : TS} {g1 g2 g : Tag} {p : List (BitVec 8)} {K : TV → TS → Prop} (hK : K (.sl (.own S.n) 1 (dB (sha p))) (S.push .lin)) (hp : p.length ≤ 1000000 := by omega) : TCall env 82 [.agg [.sl g1 1 (gD fW), .sl g2 1 (gD kW)], .sl g 1 (dB p)] S K :=
  (c_godownref02_Sum_ok S g1 g2 g p hp).row.mono fun t S' ⟨h1, h2⟩ => by rw [h1, h2]; exact hK
end Go.Proofs.YtoldjfappfbfbaaGreatDoor
namespace Go.Proofs.YtoldjfappfbfbaaGreatDoor
open Go.RowKit TL
def foldAt (s : List (BitVec 8)) : Nat → List (BitVec 8)
  | 0 => List.replicate 20 0
  | i + 1 => (foldAt s i).set (i % 20) ((foldAt s i).getD (i % 20) 0 ^^^ s.getD i 0)
theorem foldAt_len (s : List (BitVec 8)) : ∀ i, (foldAt s i).length = 20
  | 0 => by simp [foldAt]
  | i + 1 => by simp [foldAt, foldAt_len s i]
theorem foldAt_get (s : List (BitVec 8)) : ∀ m, m ≤ 32 → ∀ j, j < 20 → (foldAt s m).getD j 0 = (if j < m then s.getD j 0 else 0) ^^^ (if j + 20 < m then s.getD (j + 20) 0 else 0)
  | 0, _, j, hj => by
    rw [if_neg (by omega), if_neg (by omega), foldAt, List.getD_eq_getElem?_getD, List.getElem?_replicate]
    simp [hj]
  | m + 1, hm, j, hj => by
    have hl := foldAt_len s m
    have ih := foldAt_get s m (by omega)
    simp only [foldAt]
    by_cases hjm : j = m % 20
    · subst hjm
      rw [getD_set_eq' _ _ _ _ (by omega), ih _ hj]
      rcases Nat.lt_or_ge m 20 with h | h
      · have : m % 20 = m := Nat.mod_eq_of_lt h
        rw [this, if_neg (by omega), if_neg (by omega), if_pos (by omega), if_neg (by omega)]
        simp
      · have : m % 20 + 20 = m := by omega
        rw [this, if_pos (by omega), if_neg (by omega), if_pos (by omega), if_pos (by omega)]
        simp
    · rw [getD_set_ne' _ _ _ _ _ hjm, ih _ hj]
      have e1 : (j < m + 1) = (j < m) := by apply propext; omega
      have e2 : (j + 20 < m + 1) = (j + 20 < m) := by apply propext; omega
      simp only [e1, e2]
def fold20 (s : List (BitVec 8)) : List (BitVec 8) := foldAt s 32
def fb (s : List (BitVec 8)) (i : Nat) : BitVec 8 := if i + 20 < 32 then s.getD i 0 ^^^ s.getD (i + 20) 0 else s.getD i 0
def fbs (s : List (BitVec 8)) : Nat → List (BitVec 8)
  | 0 => []
  | i + 1 => fbs s i ++ [fb s i]
theorem fbs_len (s : List (BitVec 8)) : ∀ i, (fbs s i).length = i
  | 0 => rfl
  | i + 1 => by simp [fbs, fbs_len s i]
theorem fbs_get (s : List (BitVec 8)) : ∀ m j, j < m → (fbs s m).getD j 0 = fb s j
  | 0, j, h => by omega
  | m + 1, j, h => by
    have hl := fbs_len s m
    rw [fbs]
    rcases Nat.lt_or_ge j m with h1 | h1
    · rw [← fbs_get s m j h1]; simp [List.getD_eq_getElem?_getD, List.getElem?_append_left (show j < (fbs s m).length by omega)]
    · obtain rfl : j = m := by omega
      simp [List.getD_eq_getElem?_getD, List.getElem?_append_right (show (fbs s j).length ≤ j by omega), hl]
theorem ext_getD {α : Type} {a b : List α} (d : α) (hl : a.length = b.length) (h : ∀ i, i < a.length → a.getD i d = b.getD i d) : a = b := by
  apply List.ext_getElem hl
  intro i h1 h2
  have := h i h1
  simpa [List.getD_eq_getElem?_getD, List.getElem?_eq_getElem h1, List.getElem?_eq_getElem h2] using this
theorem fold20_fbs (s : List (BitVec 8)) : fold20 s = fbs s 20 := by
  refine ext_getD 0 (by rw [fold20, foldAt_len, fbs_len]) fun i hi => ?_
  rw [fold20, foldAt_len] at hi
  rw [fold20, foldAt_get s 32 (by omega) i hi, fbs_get s 20 i hi, fb, if_pos (by omega)]
  by_cases h : i + 20 < 32
  · rw [if_pos h, if_pos h]
  · rw [if_neg h, if_neg h]; simp
theorem fold20_len (s : List (BitVec 8)) : (fold20 s).length = 20 := foldAt_len s 32
set_option maxRecDepth 8000 in
set_option maxHeartbeats 1000000 in
theorem c_hash_Short_ok (S : TS) (g : Tag) (p : List (BitVec 8)) (hp : p.length ≤ 1000000) : TCall env 151 [.sl g 1 (dB p)] S fun r S' => r = .sl .none 1 (dB (fold20 (sha p))) ∧ Keep S S' := by
  have hs := sha_len p
  refine TCall.of 25 [.tmp 2] Tryz.func151 rfl rfl rfl rfl (by kernel_rfl) rfl ?_
  refine TWp.sr fun K0 hK0 => ?_
  simp -implicitDefEqProofs (disch := omega) only [seval, go_sem]
  repeat (refine ⟨by omega, ?_⟩)
  refine hK0 _ _ ?_; try (clear hK0; clear K0)
  refine TWp.sr fun K1 hK1 => ?_
  simp -implicitDefEqProofs (disch := omega) only [seval, go_sem]
  repeat (refine ⟨by omega, ?_⟩)
  refine hK1 _ _ ?_; try (clear hK1; clear K1)
  refine TWp.seq_k fun K2 hK2 => ?_
  refine TWp.sr fun K3 hK3 => ?_
  simp -implicitDefEqProofs (disch := omega) only [seval, go_sem]
  repeat (refine ⟨by omega, ?_⟩)
  refine c_hash_Sum ?_
  simp -implicitDefEqProofs (disch := omega) only [seval, go_sem]
  repeat (refine ⟨by omega, ?_⟩)
  refine hK3 _ _ ?_; try (clear hK3; clear K3)
  refine TWp.block ?_
  refine TWp.loop (fun n T S' => ∃ i, n + i = 32 ∧ T 3 = .vs S.n 0 1 20 ∧ T 8 = .sl (.own (S.n + 1)) 1 (dB (sha p)) ∧ T 9 = .lit (.int .i64 (32 : Int)) ∧ T 10 = .lit (.int .i64 (i : Int)) ∧ S' = ((S.push (.cells 5 (cellsD (dB (foldAt (sha p) i))))).push .lin)) (32) ?_ ?_
  · exact ⟨0, rfl, rfl, rfl, by simp [upd, hs], rfl, rfl⟩
  rintro n T S' ⟨i, hi, h3, h8, h9, h10, rfl⟩
  have hfl := foldAt_len (sha p) i
  refine TWp.sr fun K4 hK4 => ?_
  simp -implicitDefEqProofs (disch := omega) only [seval, go_sem, h3, h8, h9, h10]
  repeat (refine ⟨by omega, ?_⟩)
  refine hK4 _ _ ?_; try (clear hK4; clear K4)
  refine TWp.seq_k fun K5 hK5 => ?_
  refine TWp.cond_k fun K6 hK6 => ?_
  simp -implicitDefEqProofs (disch := omega) only [seval, go_sem, h3, h8, h9, h10]
  refine hK6 _ (fun hb => ?_) (fun hb => ?_) <;> clear hK6 <;> clear K6
  · try (replace hb := of_decide_eq_true hb)
    refine TWp.skip ?_
    refine hK5 _ _ ?_; try (clear hK5; clear K5)
    refine TWp.seq_k fun K7 hK7 => ?_
    refine TWp.block ?_
    refine TWp.sr fun K8 hK8 => ?_
    simp -implicitDefEqProofs (disch := omega) only [seval, go_sem, h3, h8, h9, h10]
    repeat (refine ⟨by omega, ?_⟩)
    refine hK8 _ _ ?_; try (clear hK8; clear K8)
    refine TWp.rk fun K9 hK9 => ?_
    simp -implicitDefEqProofs (disch := omega) only [seval, go_sem, h3, h8, h9, h10]
    repeat (refine ⟨by omega, ?_⟩)
    refine hK9 _ _ ?_; try (clear hK9; clear K9)
    refine hK7 _ _ ?_; try (clear hK7; clear K7)
    refine TWp.rk fun K10 hK10 => ?_
    simp -implicitDefEqProofs (disch := omega) only [seval, go_sem, h3, h8, h9, h10]
    repeat (refine ⟨by omega, ?_⟩)
    refine hK10 _ _ ?_; try (clear hK10; clear K10)
    refine ⟨n - 1, by omega, i + 1, by omega, h3, h8, h9, rfl, ?_⟩
    rfl
  · try (replace hb := of_decide_eq_false hb)
    refine TWp.exit ?_
    refine hK2 _ _ ?_; try (clear hK2; clear K2)
    refine TWp.freeze 3 (ag := false) (ds := dB (foldAt (sha p) i)) h3 ?_ ?_
    · have hfl := foldAt_len (sha p) i
      simp -implicitDefEqProofs (disch := omega) only [seval, go_sem, hfl]
    refine TWp.sr fun K11 hK11 => ?_
    simp -implicitDefEqProofs (disch := omega) only [seval, go_sem, h3, h8, h9, h10]
    repeat (refine ⟨by omega, ?_⟩)
    refine hK11 _ _ ?_; try (clear hK11; clear K11)
    refine TWp.ret ⟨.inr rfl, [_], ⟨rfl, trivial⟩, ?_⟩
    have hi32 : i = 32 := by omega
    subst hi32
    refine ⟨rfl, ?_⟩
    exact (Keep.push S _).push' _
theorem ren_slN (n : Nat) (L : List Nat) (s : Nat) (xs : List D) : Ren n L (.sl .none s xs) (.sl .none s xs) := .slN .none s xs
theorem c_hash_Short {S : TS} {g : Tag} {p : List (BitVec 8)} {K : TV → TS → Prop} (hK : K (.sl .none 1 (dB (fold20 (sha p)))) S) (hp : p.length ≤ 1000000 := by omega) : TCall env 151 [.sl g 1 (dB p)] S K :=
  (TCall.pure (c_hash_Short_ok S g p hp) (ren_slN _ _ _ _)).mono fun t S' ⟨h1, h2⟩ => by rw [h1, h2]; exact hK
set_option maxRecDepth 8000 in
set_option maxHeartbeats 1000000 in
theorem c_godownref02_Short_ok (S : TS) (g1 g2 g : Tag) (p : List (BitVec 8)) (hp : p.length ≤ 1000000) : TCall env 85 [.agg [.sl g1 1 (gD fW), .sl g2 1 (gD kW)], .sl g 1 (dB p)] S fun r S' => ∃ k, r = .sl (.own k) 1 (dB (fold20 (sha p))) ∧ S.n ≤ k ∧ S'.objs k = .lin ∧ Keep S S' := by
  have hs := sha_len p
  refine TCall.of 35 [.tmp 4] Tryz.func85 rfl rfl rfl rfl (by kernel_rfl) rfl ?_
  refine TWp.sr fun K0 hK0 => ?_
  simp -implicitDefEqProofs (disch := omega) only [seval, go_sem]
  repeat (refine ⟨by omega, ?_⟩)
  refine hK0 _ _ ?_; try (clear hK0; clear K0)
  refine TWp.sr fun K1 hK1 => ?_
  simp -implicitDefEqProofs (disch := omega) only [seval, go_sem]
  repeat (refine ⟨by omega, ?_⟩)
  refine c_godownref02_Sum ?_
  simp -implicitDefEqProofs (disch := omega) only [seval, go_sem]
  repeat (refine ⟨by omega, ?_⟩)
  refine hK1 _ _ ?_; try (clear hK1; clear K1)
  refine TWp.sr fun K2 hK2 => ?_
  simp -implicitDefEqProofs (disch := omega) only [seval, go_sem]
  repeat (refine ⟨by omega, ?_⟩)
  refine hK2 _ _ ?_; try (clear hK2; clear K2)
  refine TWp.seq_k fun K3 hK3 => ?_
  refine TWp.sr fun K4 hK4 => ?_
  simp -implicitDefEqProofs (disch := omega) only [seval, go_sem]
  repeat (refine ⟨by omega, ?_⟩)
  refine hK4 _ _ ?_; try (clear hK4; clear K4)
  refine TWp.block ?_
  refine TWp.asRow 6 1 rfl (.inl rfl) ?_
  refine TWp.loop (fun n T S' => ∃ i k gs, n + i = 20 ∧ T 5 = .sl gs 1 (dB (sha p)) ∧ T 7 = .lit (.int .i64 (i : Int)) ∧ T 6 = .sl (.own k) 1 (dB (fbs (sha p) i)) ∧ S.n ≤ k ∧ S'.objs k = .lin ∧ Keep S S') (20) ?_ ?_
  · exact ⟨0, S.n + 1 + 1, _, rfl, rfl, rfl, rfl, by omega, push_self _ _, ((Keep.push S _).push' _).push' _⟩
  rintro n T S' ⟨i, k, gs, hi, h5, h7, h6, hk, o6, hkeep⟩
  have hfl := fbs_len (sha p) i
  refine TWp.seq_k fun K5 hK5 => ?_
  refine TWp.sr fun K6 hK6 => ?_
  simp -implicitDefEqProofs (disch := omega) only [seval, go_sem, h5, h7, h6, o6]
  repeat (refine ⟨by omega, ?_⟩)
  refine hK6 _ _ ?_; try (clear hK6; clear K6)
  refine TWp.cond_k fun K7 hK7 => ?_
  simp -implicitDefEqProofs (disch := omega) only [seval, go_sem, h5, h7, h6, o6]
  refine hK7 _ (fun hb => ?_) (fun hb => ?_) <;> clear hK7 <;> clear K7
  · try (replace hb := of_decide_eq_true hb)
    refine TWp.skip ?_
    refine hK5 _ _ ?_; try (clear hK5; clear K5)
    refine TWp.seq_k fun K8 hK8 => ?_
    refine TWp.block ?_
    refine TWp.sr fun K9 hK9 => ?_
    simp -implicitDefEqProofs (disch := omega) only [seval, go_sem, h5, h7, h6, o6]
    repeat (refine ⟨by omega, ?_⟩)
    refine hK9 _ _ ?_; try (clear hK9; clear K9)
    refine TWp.seq_k fun K10 hK10 => ?_
    refine TWp.sr fun K11 hK11 => ?_
    simp -implicitDefEqProofs (disch := omega) only [seval, go_sem, h5, h7, h6, o6]
    repeat (refine ⟨by omega, ?_⟩)
    refine hK11 _ _ ?_; try (clear hK11; clear K11)
    refine TWp.cond_k fun K12 hK12 => ?_
    simp -implicitDefEqProofs (disch := omega) only [seval, go_sem, h5, h7, h6, o6]
    refine hK12 _ (fun hb => ?_) (fun hb => ?_) <;> clear hK12 <;> clear K12
    · try (replace hb := of_decide_eq_true hb)
      refine TWp.rk fun K13 hK13 => ?_
      simp -implicitDefEqProofs (disch := omega) only [seval, go_sem, h5, h7, h6, o6]
      repeat (refine ⟨by omega, ?_⟩)
      refine hK13 _ _ ?_; try (clear hK13; clear K13)
      refine hK10 _ _ ?_; try (clear hK10; clear K10)
      refine TWp.rk fun K14 hK14 => ?_
      simp -implicitDefEqProofs (disch := omega) only [seval, go_sem, h5, h7, h6, o6]
      repeat (refine ⟨by omega, ?_⟩)
      refine hK14 _ _ ?_; try (clear hK14; clear K14)
      refine hK8 _ _ ?_; try (clear hK8; clear K8)
      refine TWp.rk fun K15 hK15 => ?_
      simp -implicitDefEqProofs (disch := omega) only [seval, go_sem, h5, h7, h6, o6]
      repeat (refine ⟨by omega, ?_⟩)
      refine hK15 _ _ ?_; try (clear hK15; clear K15)
      refine ⟨n - 1, by omega, i + 1, S'.n, gs, by omega, h5, rfl, ?_, hkeep.1, push_self _ _, (hkeep.set hk _).push' _⟩
      show TV.sl _ _ _ = _
      rw [fbs, dB_app, fb, if_pos (by omega)]; rfl
    · try (replace hb := of_decide_eq_false hb)
      refine TWp.skip ?_
      refine hK10 _ _ ?_; try (clear hK10; clear K10)
      refine TWp.rk fun K16 hK16 => ?_
      simp -implicitDefEqProofs (disch := omega) only [seval, go_sem, h5, h7, h6, o6]
      repeat (refine ⟨by omega, ?_⟩)
      refine hK16 _ _ ?_; try (clear hK16; clear K16)
      refine hK8 _ _ ?_; try (clear hK8; clear K8)
      refine TWp.rk fun K17 hK17 => ?_
      simp -implicitDefEqProofs (disch := omega) only [seval, go_sem, h5, h7, h6, o6]
      repeat (refine ⟨by omega, ?_⟩)
      refine hK17 _ _ ?_; try (clear hK17; clear K17)
      refine ⟨n - 1, by omega, i + 1, S'.n, gs, by omega, h5, rfl, ?_, hkeep.1, push_self _ _, (hkeep.set hk _).push' _⟩
      show TV.sl _ _ _ = _
      rw [fbs, dB_app, fb, if_neg (by omega)]; rfl
  · try (replace hb := of_decide_eq_false hb)
    refine TWp.exit ?_
    refine hK3 _ _ ?_; try (clear hK3; clear K3)
    refine TWp.sr fun K18 hK18 => ?_
    simp -implicitDefEqProofs (disch := omega) only [seval, go_sem, h5, h7, h6, o6]
    repeat (refine ⟨by omega, ?_⟩)
    refine hK18 _ _ ?_; try (clear hK18; clear K18)
    refine TWp.ret ⟨.inr rfl, [_], ⟨rfl, trivial⟩, ?_⟩
    have hi20 : i = 20 := by omega
    subst hi20
    exact ⟨k, by rw [fold20_fbs]; rfl, hk, o6, hkeep⟩
theorem c_godownref02_Short {S : TS} {g1 g2 g : Tag} {p : List (BitVec 8)} {K : TV → TS → Prop} (hK : K (.sl (.own S.n) 1 (dB (fold20 (sha p)))) (S.push .lin)) (hp : p.length ≤ 1000000 := by omega) : TCall env 85 [.agg [.sl g1 1 (gD fW), .sl g2 1 (gD kW)], .sl g 1 (dB p)] S K :=
  (c_godownref02_Short_ok S g1 g2 g p hp).row.mono fun t S' ⟨h1, h2⟩ => by rw [h1, h2]; exact hK
end Go.Proofs.YtoldjfappfbfbaaGreatDoor
namespace Go.Proofs.YtoldjfappfbfbaaGreatDoor
open Go.RowKit TL
def okc (c : BitVec 8) : Bool := decide (97 ≤ c.toNat ∧ c.toNat ≤ 122) || decide (48 ≤ c.toNat ∧ c.toNat ≤ 57) || decide (c.toNat = 43) || decide (c.toNat = 45) || decide (c.toNat = 46) || decide (c.toNat = 95)
def rightS (s : Bs) : Bool := decide (1 ≤ s.length) && decide (s.length ≤ 40) && decide ((s.getD 0 0#8).toNat ≠ 46) && s.all okc
theorem take_all {α : Type} {p : α → Bool} {s : List α} {i : Nat} {d : α} (h : (s.take i).all p = true) (hi : i < s.length) (hp : p (s.getD i d) = true) : (s.take (i + 1)).all p = true := by
  rw [List.take_add_one, List.all_append, h, Bool.true_and]
  rw [List.getElem?_eq_getElem hi]
  rw [List.getD_eq_getElem?_getD, List.getElem?_eq_getElem hi] at hp
  simpa using hp
theorem all_not {α : Type} {p : α → Bool} {s : List α} {i : Nat} {d : α} (hi : i < s.length) (hp : p (s.getD i d) = false) : s.all p = false := by
  rw [List.getD_eq_getElem?_getD, List.getElem?_eq_getElem hi] at hp
  rw [List.all_eq_false]
  exact ⟨_, List.getElem_mem hi, by simpa using hp⟩
theorem okc_yes {c : BitVec 8} (h : (97 ≤ c.toNat ∧ c.toNat ≤ 122) ∨ (48 ≤ c.toNat ∧ c.toNat ≤ 57) ∨ c.toNat = 43 ∨ c.toNat = 45 ∨ c.toNat = 46 ∨ c.toNat = 95) : okc c = true := by
  simp only [okc, Bool.or_eq_true, decide_eq_true_eq]; omega
theorem okc_no {c : BitVec 8} (h : ¬ ((97 ≤ c.toNat ∧ c.toNat ≤ 122) ∨ (48 ≤ c.toNat ∧ c.toNat ≤ 57) ∨ c.toNat = 43 ∨ c.toNat = 45 ∨ c.toNat = 46 ∨ c.toNat = 95)) : okc c = false := by
  rw [Bool.eq_false_iff]
  simp only [okc, ne_eq, Bool.or_eq_true, decide_eq_true_eq]; omega
theorem right_no {s : Bs} (h : s.length < 1 ∨ 40 < s.length ∨ (s.getD 0 0#8).toNat = 46) : rightS s = false := by
  rw [Bool.eq_false_iff]
  simp only [rightS, ne_eq, Bool.and_eq_true, decide_eq_true_eq]; omega
theorem right_bad {s : Bs} {i : Nat} (hi : i < s.length) (h : okc (s.getD i 0#8) = false) : rightS s = false := by
  rw [rightS, all_not hi h, Bool.and_false]
theorem right_yes {s : Bs} (h1 : 1 ≤ s.length) (h2 : s.length ≤ 40) (h3 : (s.getD 0 0#8).toNat ≠ 46) (h4 : s.all okc = true) : rightS s = true := by
  simp only [rightS, Bool.and_eq_true, decide_eq_true_eq]; exact ⟨⟨⟨h1, h2⟩, h3⟩, h4⟩
theorem rb {b c : Bool} {S S' : TS} (h : c = b) (hs : S' = S) : TV.lit (.bool b) = .lit (.bool c) ∧ S' = S := by rw [h]; exact ⟨rfl, hs⟩
set_option maxRecDepth 8000 in
set_option maxHeartbeats 1000000 in
theorem c_godownref07_Right_ok (S : TS) (s : Bs) : TCall env 79 [.lit (.string (st s))] S fun r S' => r = .lit (.bool (rightS s)) ∧ S' = S := by
  refine TCall.of 58 [.tmp 2] Tryz.func79 rfl rfl rfl rfl (by kernel_rfl) rfl ?_
  refine TWp.sr fun K0 hK0 => ?_
  simp -implicitDefEqProofs (disch := omega) only [seval, go_sem]
  repeat (with_reducible refine ⟨by first | omega | exact Keep.push _ _ | exact KpL.push _ _, ?_⟩)
  refine hK0 _ _ ?_; try (clear hK0; clear K0)
  refine TWp.seq_k fun K1 hK1 => ?_
  refine TWp.sr fun K2 hK2 => ?_
  simp -implicitDefEqProofs (disch := omega) only [seval, go_sem]
  repeat' (first | with_reducible refine ⟨by first | omega | exact Keep.push _ _ | exact KpL.push _ _, ?_⟩ | (refine brT_split (fun hb => ?_) (fun hb => ?_) <;> (have hb' := hb; try simp only [decide_eq_true_eq, decide_eq_false_iff_not] at hb') <;> simp -implicitDefEqProofs (disch := omega) only [seval, go_sem, hb]))
  all_goals
    refine hK2 _ _ ?_; try (clear hK2; clear K2)
    refine TWp.cond_k fun K3 hK3 => ?_
    simp -implicitDefEqProofs (disch := omega) only [seval, go_sem]
    refine hK3 _ (fun hb => ?_) (fun hb => ?_) <;> clear hK3 <;> clear K3
    · try (replace hb := of_decide_eq_true hb)
      try (exact absurd hb (by decide))
      all_goals
        refine TWp.sr fun K4 hK4 => ?_
        simp -implicitDefEqProofs (disch := omega) only [seval, go_sem]
        repeat (with_reducible refine ⟨by first | omega | exact Keep.push _ _ | exact KpL.push _ _, ?_⟩)
        refine hK4 _ _ ?_; try (clear hK4; clear K4)
        refine TWp.ret ⟨.inr rfl, [_], ⟨rfl, trivial⟩, ?_⟩
        exact rb (right_no (by omega)) rfl
    · try (replace hb := of_decide_eq_false hb)
      try (exact absurd hb (by decide))
      all_goals
        refine TWp.skip ?_
        refine hK1 _ _ ?_; try (clear hK1; clear K1)
        refine TWp.seq_k fun K5 hK5 => ?_
        refine TWp.sr fun K6 hK6 => ?_
        simp -implicitDefEqProofs (disch := omega) only [seval, go_sem]
        repeat (with_reducible refine ⟨by first | omega | exact Keep.push _ _ | exact KpL.push _ _, ?_⟩)
        refine hK6 _ _ ?_; try (clear hK6; clear K6)
        refine TWp.block ?_
        refine TWp.loop (fun n T S' => ∃ i : Nat, n + i = s.length ∧ T 0 = .lit (.string (st s)) ∧ T 3 = .lit (.int .i64 (i : Int)) ∧ (s.take i).all okc = true ∧ S' = S) (s.length) ?_ ?_
        · exact ⟨0, rfl, rfl, rfl, rfl, rfl⟩
        rintro n T S' ⟨i, hi, h0, h3, ha, hS⟩
        refine TWp.seq_k fun K7 hK7 => ?_
        refine TWp.sr fun K8 hK8 => ?_
        simp -implicitDefEqProofs (disch := omega) only [seval, go_sem, h0, h3]
        repeat (with_reducible refine ⟨by first | omega | exact Keep.push _ _ | exact KpL.push _ _, ?_⟩)
        refine hK8 _ _ ?_; try (clear hK8; clear K8)
        refine TWp.cond_k fun K9 hK9 => ?_
        simp -implicitDefEqProofs (disch := omega) only [seval, go_sem, h0, h3]
        refine hK9 _ (fun hb => ?_) (fun hb => ?_) <;> clear hK9 <;> clear K9
        · try (replace hb := of_decide_eq_true hb)
          try (exact absurd hb (by decide))
          all_goals
            refine TWp.skip ?_
            refine hK7 _ _ ?_; try (clear hK7; clear K7)
            refine TWp.seq_k fun K10 hK10 => ?_
            refine TWp.block ?_
            refine TWp.sr fun K11 hK11 => ?_
            simp -implicitDefEqProofs (disch := omega) only [seval, go_sem, h0, h3]
            repeat (with_reducible refine ⟨by first | omega | exact Keep.push _ _ | exact KpL.push _ _, ?_⟩)
            refine hK11 _ _ ?_; try (clear hK11; clear K11)
            refine TWp.sr fun K12 hK12 => ?_
            simp -implicitDefEqProofs (disch := omega) only [seval, go_sem, h0, h3]
            repeat' (first | with_reducible refine ⟨by first | omega | exact Keep.push _ _ | exact KpL.push _ _, ?_⟩ | (refine brT_split (fun hb => ?_) (fun hb => ?_) <;> (have hb' := hb; try simp only [decide_eq_true_eq, decide_eq_false_iff_not] at hb') <;> simp -implicitDefEqProofs (disch := omega) only [seval, go_sem, hb, h0, h3]))
            all_goals
              refine hK12 _ _ ?_; try (clear hK12; clear K12)
              refine TWp.cond_k fun K13 hK13 => ?_
              simp -implicitDefEqProofs (disch := omega) only [seval, go_sem, h0, h3]
              refine hK13 _ (fun hb => ?_) (fun hb => ?_) <;> clear hK13 <;> clear K13
              · try (replace hb := of_decide_eq_true hb)
                try (exact absurd hb (by decide))
                all_goals
                  refine TWp.sr fun K14 hK14 => ?_
                  simp -implicitDefEqProofs (disch := omega) only [seval, go_sem, h0, h3]
                  repeat (with_reducible refine ⟨by first | omega | exact Keep.push _ _ | exact KpL.push _ _, ?_⟩)
                  refine hK14 _ _ ?_; try (clear hK14; clear K14)
                  refine TWp.ret ⟨.inr rfl, [_], ⟨rfl, trivial⟩, ?_⟩
                  try (simp only [Bool.not_eq_true', decide_eq_false_iff_not, Bool.not_eq_false', decide_eq_true_eq] at hb)
                  exact rb (right_bad (i := i) (by omega) (okc_no (by omega))) hS
              · try (replace hb := of_decide_eq_false hb)
                try (exact absurd hb (by decide))
                all_goals
                  refine TWp.skip ?_
                  refine hK10 _ _ ?_; try (clear hK10; clear K10)
                  refine TWp.rk fun K15 hK15 => ?_
                  simp -implicitDefEqProofs (disch := omega) only [seval, go_sem, h0, h3]
                  repeat (with_reducible refine ⟨by first | omega | exact Keep.push _ _ | exact KpL.push _ _, ?_⟩)
                  refine hK15 _ _ ?_; try (clear hK15; clear K15)
                  try (simp only [Bool.not_eq_true', decide_eq_false_iff_not, Bool.not_eq_false', decide_eq_true_eq] at hb)
                  exact ⟨n - 1, by omega, i + 1, by omega, h0, rfl, take_all (d := 0#8) ha (by omega) (okc_yes (by omega)), hS⟩
        · try (replace hb := of_decide_eq_false hb)
          try (exact absurd hb (by decide))
          all_goals
            refine TWp.exit ?_
            refine hK5 _ _ ?_; try (clear hK5; clear K5)
            refine TWp.sr fun K16 hK16 => ?_
            simp -implicitDefEqProofs (disch := omega) only [seval, go_sem, h0, h3]
            repeat (with_reducible refine ⟨by first | omega | exact Keep.push _ _ | exact KpL.push _ _, ?_⟩)
            refine hK16 _ _ ?_; try (clear hK16; clear K16)
            refine TWp.ret ⟨.inr rfl, [_], ⟨rfl, trivial⟩, ?_⟩
            exact rb (right_yes (by omega) (by omega) (by omega) (by rw [← ha, List.take_of_length_le (by omega)])) hS
end Go.Proofs.YtoldjfappfbfbaaGreatDoor
namespace Go.Proofs.YtoldjfappfbfbaaGreatDoor
open Go.RowKit TL
/-- A row of truth values. -/
def dO (bs : List Bool) : List TV := bs.map fun b => .lit (.bool b)
theorem dO_len (bs : List Bool) : (dO bs).length = bs.length := by simp [dO]
theorem dO_get {bs : List Bool} {i : Nat} (h : i < bs.length) : (dO bs).getD i .unk = .lit (.bool (bs.getD i false)) := by
  simp [dO, List.getD_eq_getElem?_getD, List.getElem?_map, List.getElem?_eq_getElem h]
theorem dO_get' {bs : List Bool} {i : Nat} (h : i < bs.length) : (dO bs)[i]? = some (.lit (.bool (bs.getD i false))) := by
  simp [dO, List.getD_eq_getElem?_getD, List.getElem?_map, List.getElem?_eq_getElem h]
theorem dO_set (bs : List Bool) (i : Nat) (x : Bool) : (dO bs).set i (.lit (.bool x)) = dO (bs.set i x) := by simp [dO, List.map_set]
theorem dO_flat (bs : List Bool) : (dO bs).all flatT = true := by simp [dO, flatT]
theorem dO_take (bs : List Bool) (n : Nat) : (dO bs).take n = dO (bs.take n) := by simp [dO, List.map_take]
theorem dO_drop (bs : List Bool) (n : Nat) : (dO bs).drop n = dO (bs.drop n) := by simp [dO, List.map_drop]
theorem dO_spl0 {a b : List Bool} (h : a.length = b.length) : spl (dO a) 0 (dO b) = dO b := by
  have := spl_append [] (dO b) (dO a) [] (by simp [dO, h])
  simpa using this
attribute [go_sem] dO_len dO_get dO_get' dO_set dO_flat dO_take dO_drop dO_spl0
theorem mem_getD {s : Bs} {i : Nat} (h : i < s.length) : s.getD i 0#8 ∈ s := by
  rw [List.getD_eq_getElem?_getD, List.getElem?_eq_getElem h]
  exact List.getElem_mem h
def no256 : List Bool := List.replicate 256 false
set_option maxRecDepth 20000 in
theorem zeroSet_c : ofConst zero260 = .agg (dO no256) := rfl
theorem no256_len : no256.length = 256 := List.length_replicate
attribute [go_sem] zeroSet_c no256_len
def setOf (s : Bs) : List Bool := s.foldl (fun a c => a.set c.toNat true) no256
theorem foldSet_len (s : Bs) : ∀ a : List Bool, (s.foldl (fun a c => a.set c.toNat true) a).length = a.length := by
  induction s with
  | nil => intro a; rfl
  | cons c s ih => intro a; rw [List.foldl_cons, ih, List.length_set]
theorem setOf_len (s : Bs) : (setOf s).length = 256 := by rw [setOf, foldSet_len, no256_len]
theorem setOf_next {s : Bs} {i : Nat} (h : i < s.length) : setOf (s.take (i + 1)) = (setOf (s.take i)).set (s.getD i 0#8).toNat true := by
  rw [setOf, List.take_add_one, List.foldl_append, List.getElem?_eq_getElem h, List.getD_eq_getElem?_getD, List.getElem?_eq_getElem h]
  rfl
set_option maxRecDepth 8000 in
set_option maxHeartbeats 1000000 in
theorem c_strings_asciiSet_contains_ok (S : TS) (id : Nat) (bs : List Bool) (hl : bs.length = 256) (c : BitVec 8) (hS : S.objs id = .cells 260 (dO bs)) : TCall env 218 [.ptr id 0, .lit (w8 c)] S fun r S' => r = .lit (.bool (bs.getD c.toNat false)) ∧ S' = S := by
  refine TCall.of 10 [.tmp 4] Tryz.func218 rfl rfl rfl rfl (by kernel_rfl) rfl ?_
  refine TWp.sr fun K0 hK0 => ?_
  simp -implicitDefEqProofs (disch := omega) only [seval, go_sem, hS, hl]
  repeat (with_reducible refine ⟨by first | omega | exact Keep.push _ _ | exact KpL.push _ _, ?_⟩)
  refine hK0 _ _ ?_; try (clear hK0; clear K0)
  refine TWp.sr fun K1 hK1 => ?_
  simp -implicitDefEqProofs (disch := omega) only [seval, go_sem, hS, hl]
  repeat (with_reducible refine ⟨by first | omega | exact Keep.push _ _ | exact KpL.push _ _, ?_⟩)
  refine hK1 _ _ ?_; try (clear hK1; clear K1)
  refine TWp.ret ⟨.inr rfl, [_], ⟨rfl, trivial⟩, ?_⟩
  exact ⟨rfl, rfl⟩
set_option maxRecDepth 8000 in
set_option maxHeartbeats 1000000 in
theorem c_strings_makeASCIISet_ok (S : TS) (s : Bs) (hs : ∀ c ∈ s, c.toNat < 128) (hm : s.length ≤ 1000000) : TCall env 204 [.lit (.string (st s))] S fun r S' => r = .tup [.agg (dO (setOf s)), .lit (.bool true)] ∧ Keep S S' := by
  have hl0 := setOf_len s
  refine TCall.of 21 [.cell 2 260, .tmp 3] Tryz.func204 rfl rfl rfl rfl (by kernel_rfl) rfl ?_
  refine TWp.sr fun K0 hK0 => ?_
  simp -implicitDefEqProofs (disch := omega) only [seval, go_sem, hl0]
  repeat (with_reducible refine ⟨by first | omega | exact Keep.push _ _ | exact KpL.push _ _, ?_⟩)
  refine hK0 _ _ ?_; try (clear hK0; clear K0)
  refine TWp.seq_k fun K1 hK1 => ?_
  refine TWp.sr fun K2 hK2 => ?_
  simp -implicitDefEqProofs (disch := omega) only [seval, go_sem, hl0]
  repeat (with_reducible refine ⟨by first | omega | exact Keep.push _ _ | exact KpL.push _ _, ?_⟩)
  refine hK2 _ _ ?_; try (clear hK2; clear K2)
  refine TWp.block ?_
  refine TWp.loop (fun n T S' => ∃ i : Nat, n + i = s.length ∧ T 0 = .lit (.string (st s)) ∧ T 4 = .lit (.int .i64 (i : Int)) ∧ T 2 = .ptr S.n 0 ∧ S' = S.push (.cells 260 (dO (setOf (s.take i))))) (s.length) ?_ ?_
  · exact ⟨0, rfl, rfl, rfl, rfl, rfl⟩
  rintro n T S' ⟨i, hi, h0, h4, h2, rfl⟩
  have hl := setOf_len (s.take i)
  refine TWp.seq_k fun K3 hK3 => ?_
  refine TWp.sr fun K4 hK4 => ?_
  simp -implicitDefEqProofs (disch := omega) only [seval, go_sem, h0, h4, h2, hl, hl0]
  repeat (with_reducible refine ⟨by first | omega | exact Keep.push _ _ | exact KpL.push _ _, ?_⟩)
  refine hK4 _ _ ?_; try (clear hK4; clear K4)
  refine TWp.cond_k fun K5 hK5 => ?_
  simp -implicitDefEqProofs (disch := omega) only [seval, go_sem, h0, h4, h2, hl, hl0]
  refine hK5 _ (fun hb => ?_) (fun hb => ?_) <;> clear hK5 <;> clear K5
  · try (replace hb := of_decide_eq_true hb)
    refine TWp.skip ?_
    refine hK3 _ _ ?_; try (clear hK3; clear K3)
    refine TWp.seq_k fun K6 hK6 => ?_
    refine TWp.block ?_
    refine TWp.sr fun K7 hK7 => ?_
    simp -implicitDefEqProofs (disch := omega) only [seval, go_sem, h0, h4, h2, hl, hl0]
    repeat (with_reducible refine ⟨by first | omega | exact Keep.push _ _ | exact KpL.push _ _, ?_⟩)
    refine hK7 _ _ ?_; try (clear hK7; clear K7)
    refine TWp.seq_k fun K8 hK8 => ?_
    refine TWp.sr fun K9 hK9 => ?_
    simp -implicitDefEqProofs (disch := omega) only [seval, go_sem, h0, h4, h2, hl, hl0]
    repeat (with_reducible refine ⟨by first | omega | exact Keep.push _ _ | exact KpL.push _ _, ?_⟩)
    refine hK9 _ _ ?_; try (clear hK9; clear K9)
    refine TWp.cond_k fun K10 hK10 => ?_
    simp -implicitDefEqProofs (disch := omega) only [seval, go_sem, h0, h4, h2, hl, hl0]
    refine hK10 _ (fun hb => ?_) (fun hb => ?_) <;> clear hK10 <;> clear K10
    · exact absurd (hs _ (mem_getD (s := s) (i := i) (by omega))) (by have := of_decide_eq_true hb; omega)
    · try (replace hb := of_decide_eq_false hb)
      refine TWp.skip ?_
      refine hK8 _ _ ?_; try (clear hK8; clear K8)
      refine TWp.rk fun K12 hK12 => ?_
      simp -implicitDefEqProofs (disch := omega) only [seval, go_sem, h0, h4, h2, hl, hl0]
      repeat (with_reducible refine ⟨by first | omega | exact Keep.push _ _ | exact KpL.push _ _, ?_⟩)
      refine hK12 _ _ ?_; try (clear hK12; clear K12)
      refine hK6 _ _ ?_; try (clear hK6; clear K6)
      refine TWp.rk fun K13 hK13 => ?_
      simp -implicitDefEqProofs (disch := omega) only [seval, go_sem, h0, h4, h2, hl, hl0]
      repeat (with_reducible refine ⟨by first | omega | exact Keep.push _ _ | exact KpL.push _ _, ?_⟩)
      refine hK13 _ _ ?_; try (clear hK13; clear K13)
      exact ⟨n - 1, by omega, i + 1, by omega, h0, rfl, h2, by rw [setOf_next (by omega)]⟩
  · try (replace hb := of_decide_eq_false hb)
    refine TWp.exit ?_
    refine hK1 _ _ ?_; try (clear hK1; clear K1)
    refine TWp.sr fun K14 hK14 => ?_
    simp -implicitDefEqProofs (disch := omega) only [seval, go_sem, h0, h4, h2, hl, hl0]
    repeat (with_reducible refine ⟨by first | omega | exact Keep.push _ _ | exact KpL.push _ _, ?_⟩)
    refine hK14 _ _ ?_; try (clear hK14; clear K14)
    refine TWp.ret ⟨.inr rfl, [.agg (dO (setOf s)), .lit (.bool true)], ⟨resCell (by exact h2) ti260 (e := 260) (push_self _ _) rfl ?_, rfl, trivial⟩, rfl, Keep.push _ _⟩
    rw [dO_len]; exact hl0
theorem c_strings_asciiSet_contains {S : TS} {id : Nat} {bs : List Bool} {c : BitVec 8} {K : TV → TS → Prop} (hK : K (.lit (.bool (bs.getD c.toNat false))) S) (hS : S.objs id = .cells 260 (dO bs)) (hl : bs.length = 256) : TCall env 218 [.ptr id 0, .lit (.int .u8 (c.toNat : Int))] S K :=
  (c_strings_asciiSet_contains_ok S id bs hl c hS).mono fun t S' ⟨h1, h2⟩ => by rw [h1, h2]; exact hK
def cutL (p : List Bool) (s : Bs) : Bs := s.dropWhile fun c => p.getD c.toNat false
def cutR (p : List Bool) (s : Bs) : Bs := (cutL p s.reverse).reverse
theorem cutL_in {p : List Bool} {s : Bs} (h : 0 < s.length) (hp : p.getD (s.getD 0 0#8).toNat false = true) : cutL p (s.drop 1) = cutL p s := by
  cases s with
  | nil => simp at h
  | cons c s =>
    have h1 : p.getD c.toNat false = true := hp
    simp only [cutL, List.drop_one, List.tail_cons, List.dropWhile_cons, h1, if_true]
theorem cutL_out {p : List Bool} {s : Bs} (h : 0 < s.length → p.getD (s.getD 0 0#8).toNat false = false) : cutL p s = s := by
  cases s with
  | nil => rfl
  | cons c s =>
    have h1 : p.getD c.toNat false = false := h (by simp)
    simp only [cutL, List.dropWhile_cons, h1]
    simp
theorem last_eq {s : Bs} (h : 0 < s.length) : s.reverse = s.getD (s.length - 1) 0#8 :: (s.take (s.length - 1)).reverse := by
  have e : s = s.take (s.length - 1) ++ [s.getD (s.length - 1) 0#8] := by
    conv => lhs; rw [← List.take_append_drop (s.length - 1) s]
    congr 1
    rw [List.drop_eq_getElem_cons (by omega), List.drop_of_length_le (by omega), List.getD_eq_getElem?_getD, List.getElem?_eq_getElem (by omega)]
    rfl
  conv => lhs; rw [e]
  rw [List.reverse_append]; rfl
theorem cutR_in {p : List Bool} {s : Bs} (h : 0 < s.length) (hp : p.getD (s.getD (s.length - 1) 0#8).toNat false = true) : cutR p (s.take (s.length - 1)) = cutR p s := by
  unfold cutR
  rw [last_eq h]
  congr 1
  simp only [cutL, List.dropWhile_cons, hp, if_true]
theorem cutR_out {p : List Bool} {s : Bs} (h : 0 < s.length → p.getD (s.getD (s.length - 1) 0#8).toNat false = false) : cutR p s = s := by
  unfold cutR
  rw [cutL_out, List.reverse_reverse]
  intro h2
  rw [List.length_reverse] at h2
  rw [last_eq h2]
  exact h h2
theorem cut_all (p : List Bool) (s : Bs) : decide (cutL p (cutR p s) = []) = s.all fun c => p.getD c.toNat false := by
  have hl : ∀ s : Bs, cutL p s = [] ↔ ∀ c ∈ s, p.getD c.toNat false = true := by
    intro s
    induction s with
    | nil => simp [cutL]
    | cons c s ih =>
      by_cases h : p.getD c.toNat false = true
      · simp only [cutL, List.dropWhile_cons, h, if_true, List.mem_cons, forall_eq_or_imp, true_and]; exact ih
      · simp only [cutL, List.dropWhile_cons, List.mem_cons, forall_eq_or_imp, h]; simp
  have ho : ∀ s : Bs, cutL p s = [] ∨ ∃ c t, cutL p s = c :: t ∧ p.getD c.toNat false = false := by
    intro s
    induction s with
    | nil => simp [cutL]
    | cons c s ih =>
      by_cases h : p.getD c.toNat false = true
      · simp only [cutL, List.dropWhile_cons, h, if_true]; exact ih
      · exact .inr ⟨c, s, by simp only [cutL, List.dropWhile_cons, h]; simp, by simpa using h⟩
  rw [Bool.eq_iff_iff, decide_eq_true_eq, List.all_eq_true, hl]
  constructor
  · intro h
    rcases ho s.reverse with h1 | ⟨c, t, h1, h2⟩
    · exact fun c hc => (hl s.reverse).1 h1 c (by simpa using hc)
    · have := h c (by unfold cutR; rw [h1]; simp)
      rw [h2] at this; cases this
  · intro h c hc
    have h1 : cutL p s.reverse = [] := (hl s.reverse).2 fun c hc => h c (by simpa using hc)
    unfold cutR at hc
    rw [h1] at hc; simp at hc
set_option maxRecDepth 8000 in
set_option maxHeartbeats 1000000 in
theorem c_strings_trimLeftASCII_ok (S : TS) (s : Bs) (hm : s.length ≤ 1000000) (id : Nat) (bs : List Bool) (hl : bs.length = 256) (hS : S.objs id = .cells 260 (dO bs)) : TCall env 205 [.lit (.string (st s)), .ptr id 0] S fun r S' => r = .lit (.string (st (cutL bs s))) ∧ S' = S := by
  refine TCall.of 16 [.tmp 4] Tryz.func205 rfl rfl rfl rfl (by kernel_rfl) rfl ?_
  refine TWp.sr fun K0 hK0 => ?_
  simp -implicitDefEqProofs (disch := omega) only [seval, go_sem]
  repeat (with_reducible refine ⟨by first | omega | exact Keep.push _ _ | exact KpL.push _ _, ?_⟩)
  refine hK0 _ _ ?_; try (clear hK0; clear K0)
  refine TWp.seq_k fun K1 hK1 => ?_
  refine TWp.block ?_
  refine TWp.loop (fun n T S' => ∃ u : Bs, u.length = n ∧ u.length ≤ 1000000 ∧ T 0 = .lit (.string (st u)) ∧ T 1 = .ptr id 0 ∧ cutL bs u = cutL bs s ∧ S' = S) (s.length) ?_ ?_
  · exact ⟨s, rfl, hm, rfl, rfl, rfl, rfl⟩
  rintro n T S' ⟨u, hn, hum, h0, h1, he, rfl⟩
  refine TWp.seq_k fun K2 hK2 => ?_
  refine TWp.sr fun K3 hK3 => ?_
  simp -implicitDefEqProofs (disch := omega) only [seval, go_sem, h0, h1]
  repeat (with_reducible refine ⟨by first | omega | exact Keep.push _ _ | exact KpL.push _ _, ?_⟩)
  refine hK3 _ _ ?_; try (clear hK3; clear K3)
  refine TWp.cond_k fun K4 hK4 => ?_
  simp -implicitDefEqProofs (disch := omega) only [seval, go_sem, h0, h1]
  refine hK4 _ (fun hb => ?_) (fun hb => ?_) <;> clear hK4 <;> clear K4
  · try (replace hb := of_decide_eq_true hb)
    refine TWp.skip ?_
    refine hK2 _ _ ?_; try (clear hK2; clear K2)
    refine TWp.block ?_
    refine TWp.seq_k fun K5 hK5 => ?_
    refine TWp.sr fun K6 hK6 => ?_
    simp -implicitDefEqProofs (disch := omega) only [seval, go_sem, h0, h1]
    repeat (with_reducible refine ⟨by first | omega | exact Keep.push _ _ | exact KpL.push _ _, ?_⟩)
    refine c_strings_asciiSet_contains ?_ hS hl
    simp -implicitDefEqProofs (disch := omega) only [seval, go_sem, h0, h1]
    repeat (with_reducible refine ⟨by first | omega | exact Keep.push _ _ | exact KpL.push _ _, ?_⟩)
    refine hK6 _ _ ?_; try (clear hK6; clear K6)
    refine TWp.cond_k fun K7 hK7 => ?_
    simp -implicitDefEqProofs (disch := omega) only [seval, go_sem, h0, h1]
    refine hK7 _ (fun hb => ?_) (fun hb => ?_) <;> clear hK7 <;> clear K7
    · try (replace hb := of_decide_eq_true hb)
      refine TWp.exit ?_
      refine hK1 _ _ ?_; try (clear hK1; clear K1)
      refine TWp.sr fun K8 hK8 => ?_
      simp -implicitDefEqProofs (disch := omega) only [seval, go_sem, h0, h1]
      repeat (with_reducible refine ⟨by first | omega | exact Keep.push _ _ | exact KpL.push _ _, ?_⟩)
      refine hK8 _ _ ?_; try (clear hK8; clear K8)
      refine TWp.ret ⟨.inr rfl, [_], ⟨rfl, trivial⟩, ?_⟩
      exact ⟨by show TV.lit _ = _; rw [← he, cutL_out fun _ => by simpa using hb], rfl⟩
    · try (replace hb := of_decide_eq_false hb)
      refine TWp.skip ?_
      refine hK5 _ _ ?_; try (clear hK5; clear K5)
      refine TWp.rk fun K9 hK9 => ?_
      simp -implicitDefEqProofs (disch := omega) only [seval, go_sem, h0, h1]
      repeat (with_reducible refine ⟨by first | omega | exact Keep.push _ _ | exact KpL.push _ _, ?_⟩)
      refine hK9 _ _ ?_; try (clear hK9; clear K9)
      exact ⟨u.length - 1, by omega, u.drop 1, by simp, by simp; omega, rfl, h1, by rw [← he]; exact cutL_in (by omega) (by simpa using hb), rfl⟩
  · try (replace hb := of_decide_eq_false hb)
    refine TWp.exit ?_
    refine hK1 _ _ ?_; try (clear hK1; clear K1)
    refine TWp.sr fun K10 hK10 => ?_
    simp -implicitDefEqProofs (disch := omega) only [seval, go_sem, h0, h1]
    repeat (with_reducible refine ⟨by first | omega | exact Keep.push _ _ | exact KpL.push _ _, ?_⟩)
    refine hK10 _ _ ?_; try (clear hK10; clear K10)
    refine TWp.ret ⟨.inr rfl, [_], ⟨rfl, trivial⟩, ?_⟩
    exact ⟨by show TV.lit _ = _; rw [← he, cutL_out fun h => absurd h (by omega)], rfl⟩
set_option maxRecDepth 8000 in
set_option maxHeartbeats 1000000 in
theorem c_strings_trimRightASCII_ok (S : TS) (s : Bs) (hm : s.length ≤ 1000000) (id : Nat) (bs : List Bool) (hl : bs.length = 256) (hS : S.objs id = .cells 260 (dO bs)) : TCall env 206 [.lit (.string (st s)), .ptr id 0] S fun r S' => r = .lit (.string (st (cutR bs s))) ∧ S' = S := by
  refine TCall.of 22 [.tmp 4] Tryz.func206 rfl rfl rfl rfl (by kernel_rfl) rfl ?_
  refine TWp.sr fun K0 hK0 => ?_
  simp -implicitDefEqProofs (disch := omega) only [seval, go_sem]
  repeat (with_reducible refine ⟨by first | omega | exact Keep.push _ _ | exact KpL.push _ _, ?_⟩)
  refine hK0 _ _ ?_; try (clear hK0; clear K0)
  refine TWp.seq_k fun K1 hK1 => ?_
  refine TWp.block ?_
  refine TWp.loop (fun n T S' => ∃ u : Bs, u.length = n ∧ u.length ≤ 1000000 ∧ T 0 = .lit (.string (st u)) ∧ T 1 = .ptr id 0 ∧ cutR bs u = cutR bs s ∧ S' = S) (s.length) ?_ ?_
  · exact ⟨s, rfl, hm, rfl, rfl, rfl, rfl⟩
  rintro n T S' ⟨u, hn, hum, h0, h1, he, rfl⟩
  refine TWp.seq_k fun K2 hK2 => ?_
  refine TWp.sr fun K3 hK3 => ?_
  simp -implicitDefEqProofs (disch := omega) only [seval, go_sem, h0, h1]
  repeat (with_reducible refine ⟨by first | omega | exact Keep.push _ _ | exact KpL.push _ _, ?_⟩)
  refine hK3 _ _ ?_; try (clear hK3; clear K3)
  refine TWp.cond_k fun K4 hK4 => ?_
  simp -implicitDefEqProofs (disch := omega) only [seval, go_sem, h0, h1]
  refine hK4 _ (fun hb => ?_) (fun hb => ?_) <;> clear hK4 <;> clear K4
  · try (replace hb := of_decide_eq_true hb)
    refine TWp.skip ?_
    refine hK2 _ _ ?_; try (clear hK2; clear K2)
    refine TWp.block ?_
    refine TWp.seq_k fun K5 hK5 => ?_
    refine TWp.sr fun K6 hK6 => ?_
    simp -implicitDefEqProofs (disch := omega) only [seval, go_sem, h0, h1]
    repeat (with_reducible refine ⟨by first | omega | exact Keep.push _ _ | exact KpL.push _ _, ?_⟩)
    refine c_strings_asciiSet_contains ?_ hS hl
    simp -implicitDefEqProofs (disch := omega) only [seval, go_sem, h0, h1]
    repeat (with_reducible refine ⟨by first | omega | exact Keep.push _ _ | exact KpL.push _ _, ?_⟩)
    refine hK6 _ _ ?_; try (clear hK6; clear K6)
    refine TWp.cond_k fun K7 hK7 => ?_
    simp -implicitDefEqProofs (disch := omega) only [seval, go_sem, h0, h1]
    refine hK7 _ (fun hb => ?_) (fun hb => ?_) <;> clear hK7 <;> clear K7
    · try (replace hb := of_decide_eq_true hb)
      refine TWp.exit ?_
      refine hK1 _ _ ?_; try (clear hK1; clear K1)
      refine TWp.sr fun K8 hK8 => ?_
      simp -implicitDefEqProofs (disch := omega) only [seval, go_sem, h0, h1]
      repeat (with_reducible refine ⟨by first | omega | exact Keep.push _ _ | exact KpL.push _ _, ?_⟩)
      refine hK8 _ _ ?_; try (clear hK8; clear K8)
      refine TWp.ret ⟨.inr rfl, [_], ⟨rfl, trivial⟩, ?_⟩
      exact ⟨by show TV.lit _ = _; rw [← he, cutR_out fun _ => by simpa using hb], rfl⟩
    · try (replace hb := of_decide_eq_false hb)
      refine TWp.skip ?_
      refine hK5 _ _ ?_; try (clear hK5; clear K5)
      refine TWp.rk fun K9 hK9 => ?_
      simp -implicitDefEqProofs (disch := omega) only [seval, go_sem, h0, h1]
      repeat (with_reducible refine ⟨by first | omega | exact Keep.push _ _ | exact KpL.push _ _, ?_⟩)
      refine hK9 _ _ ?_; try (clear hK9; clear K9)
      exact ⟨u.length - 1, by omega, u.take (u.length - 1), by simp, by simp; omega, rfl, h1, by rw [← he]; exact cutR_in (by omega) (by simpa using hb), rfl⟩
  · try (replace hb := of_decide_eq_false hb)
    refine TWp.exit ?_
    refine hK1 _ _ ?_; try (clear hK1; clear K1)
    refine TWp.sr fun K10 hK10 => ?_
    simp -implicitDefEqProofs (disch := omega) only [seval, go_sem, h0, h1]
    repeat (with_reducible refine ⟨by first | omega | exact Keep.push _ _ | exact KpL.push _ _, ?_⟩)
    refine hK10 _ _ ?_; try (clear hK10; clear K10)
    refine TWp.ret ⟨.inr rfl, [_], ⟨rfl, trivial⟩, ?_⟩
    exact ⟨by show TV.lit _ = _; rw [← he, cutR_out fun h => absurd h (by omega)], rfl⟩
end Go.Proofs.YtoldjfappfbfbaaGreatDoor
namespace Go.Proofs.YtoldjfappfbfbaaGreatDoor
open Go.RowKit TL
theorem ren_dO (n : Nat) (L : List Nat) (bs : List Bool) : Ren n L (.agg (dO bs)) (.agg (dO bs)) := by
  refine .agg _ _ rfl fun j t t' h1 h2 => ?_
  rw [h1] at h2; injection h2 with h2; subst h2
  unfold dO at h1
  rw [List.getElem?_map] at h1
  obtain ⟨x, _, rfl⟩ := Option.map_eq_some_iff.1 h1
  exact .lit _
theorem c_strings_makeASCIISet {S : TS} {s : Bs} {K : TV → TS → Prop} (hK : K (.tup [.agg (dO (setOf s)), .lit (.bool true)]) S) (hs : ∀ c ∈ s, c.toNat < 128) (hm : s.length ≤ 1000000 := by omega) : TCall env 204 [.lit (.string (st s))] S K :=
  (TCall.pure (c_strings_makeASCIISet_ok S s hs hm) (.tupF (.cons (ren_dO _ _ _) (.cons (.lit _) .nil)))).mono fun t S' ⟨h1, h2⟩ => by rw [h1, h2]; exact hK
theorem c_strings_trimLeftASCII {S : TS} {s : Bs} {id : Nat} {bs : List Bool} {K : TV → TS → Prop} (hK : K (.lit (.string (st (cutL bs s)))) S) (hS : S.objs id = .cells 260 (dO bs)) (hl : bs.length = 256) (hm : s.length ≤ 1000000 := by omega) : TCall env 205 [.lit (.string (st s)), .ptr id 0] S K :=
  (c_strings_trimLeftASCII_ok S s hm id bs hl hS).mono fun t S' ⟨h1, h2⟩ => by rw [h1, h2]; exact hK
theorem c_strings_trimRightASCII {S : TS} {s : Bs} {id : Nat} {bs : List Bool} {K : TV → TS → Prop} (hK : K (.lit (.string (st (cutR bs s)))) S) (hS : S.objs id = .cells 260 (dO bs)) (hl : bs.length = 256) (hm : s.length ≤ 1000000 := by omega) : TCall env 206 [.lit (.string (st s)), .ptr id 0] S K :=
  (c_strings_trimRightASCII_ok S s hm id bs hl hS).mono fun t S' ⟨h1, h2⟩ => by rw [h1, h2]; exact hK
theorem cutL_len (p : List Bool) (s : Bs) : (cutL p s).length ≤ s.length := by
  unfold cutL
  exact (List.dropWhile_sublist _).length_le
theorem cutR_len (p : List Bool) (s : Bs) : (cutR p s).length ≤ s.length := by
  have := cutL_len p s.reverse
  simpa [cutR] using this
set_option maxRecDepth 8000 in
set_option maxHeartbeats 1000000 in
theorem c_strings_Trim_ok (S : TS) (s cut : Bs) (h2 : 2 ≤ cut.length) (hs : ∀ c ∈ cut, c.toNat < 128) (hm : s.length ≤ 1000000) (hm2 : cut.length ≤ 1000000) : TCall env 175 [.lit (.string (st s)), .lit (.string (st cut))] S fun r S' => r = .lit (.string (st (cutL (setOf cut) (cutR (setOf cut) s)))) ∧ Keep S S' := by
  have hl2 := no256_len
  have hl0 := setOf_len cut
  have hl1 := cutR_len (setOf cut) s
  refine TCall.of 43 [.tmp 4] Tryz.func175 rfl rfl rfl rfl (by kernel_rfl) rfl ?_
  refine TWp.sr fun K0 hK0 => ?_
  simp -implicitDefEqProofs (disch := omega) only [seval, go_sem, hl0]
  repeat (with_reducible refine ⟨by first | omega | exact Keep.push _ _ | exact KpL.push _ _, ?_⟩)
  refine hK0 _ _ ?_; try (clear hK0; clear K0)
  refine TWp.seq_k fun K1 hK1 => ?_
  refine TWp.sr fun K2 hK2 => ?_
  simp -implicitDefEqProofs (disch := omega) only [seval, go_sem, hl0]
  repeat' (first | with_reducible refine ⟨by first | omega | exact Keep.push _ _ | exact KpL.push _ _, ?_⟩ | (refine brT_split (fun hb => ?_) (fun hb => ?_) <;> (have hb' := hb; try simp only [decide_eq_true_eq, decide_eq_false_iff_not] at hb') <;> simp -implicitDefEqProofs (disch := omega) only [seval, go_sem, hb, hl0]))
  all_goals
    refine hK2 _ _ ?_; try (clear hK2; clear K2)
    refine TWp.cond_k fun K3 hK3 => ?_
    simp -implicitDefEqProofs (disch := omega) only [seval, go_sem, hl0]
    refine hK3 _ (fun hb => ?_) (fun hb => ?_) <;> clear hK3 <;> clear K3
    · try (replace hb := of_decide_eq_true hb)
      try (exact absurd hb (by decide))
      all_goals
        refine TWp.sr fun K4 hK4 => ?_
        simp -implicitDefEqProofs (disch := omega) only [seval, go_sem, hl0]
        repeat (with_reducible refine ⟨by first | omega | exact Keep.push _ _ | exact KpL.push _ _, ?_⟩)
        refine hK4 _ _ ?_; try (clear hK4; clear K4)
        refine TWp.ret ⟨.inr rfl, [_], ⟨rfl, trivial⟩, ?_⟩
        have e : s = [] := by first | exact of_decide_eq_true (by assumption) | exact absurd (by assumption) (by rintro rfl; simp at h2)
        subst e
        exact ⟨rfl, Keep.refl _⟩
    · try (replace hb := of_decide_eq_false hb)
      try (exact absurd hb (by decide))
      all_goals
        refine TWp.skip ?_
        refine hK1 _ _ ?_; try (clear hK1; clear K1)
        refine TWp.seq_k fun K5 hK5 => ?_
        refine TWp.sr fun K6 hK6 => ?_
        simp -implicitDefEqProofs (disch := omega) only [seval, go_sem, hl0]
        repeat' (first | with_reducible refine ⟨by first | omega | exact Keep.push _ _ | exact KpL.push _ _, ?_⟩ | (refine brT_split (fun hb => ?_) (fun hb => ?_) <;> (have hb' := hb; try simp only [decide_eq_true_eq, decide_eq_false_iff_not] at hb') <;> simp -implicitDefEqProofs (disch := omega) only [seval, go_sem, hb, hl0]))
        all_goals
          refine hK6 _ _ ?_; try (clear hK6; clear K6)
          refine TWp.cond_k fun K7 hK7 => ?_
          simp -implicitDefEqProofs (disch := omega) only [seval, go_sem, hl0]
          refine hK7 _ (fun hb => ?_) (fun hb => ?_) <;> clear hK7 <;> clear K7
          · try (replace hb := of_decide_eq_true hb)
            try (exact absurd hb (by decide))
            all_goals
              exfalso; omega
          · try (replace hb := of_decide_eq_false hb)
            try (exact absurd hb (by decide))
            all_goals
              refine TWp.skip ?_
              refine hK5 _ _ ?_; try (clear hK5; clear K5)
              refine TWp.seq_k fun K9 hK9 => ?_
              refine TWp.sr fun K10 hK10 => ?_
              simp -implicitDefEqProofs (disch := omega) only [seval, go_sem, hl0]
              repeat (with_reducible refine ⟨by first | omega | exact Keep.push _ _ | exact KpL.push _ _, ?_⟩)
              refine c_strings_makeASCIISet ?_ hs
              simp -implicitDefEqProofs (disch := omega) only [seval, go_sem, hl0]
              repeat (with_reducible refine ⟨by first | omega | exact Keep.push _ _ | exact KpL.push _ _, ?_⟩)
              refine hK10 _ _ ?_; try (clear hK10; clear K10)
              refine TWp.sr fun K11 hK11 => ?_
              simp -implicitDefEqProofs (disch := omega) only [seval, go_sem, hl0]
              repeat (with_reducible refine ⟨by first | omega | exact Keep.push _ _ | exact KpL.push _ _, ?_⟩)
              refine hK11 _ _ ?_; try (clear hK11; clear K11)
              refine TWp.cond_k fun K12 hK12 => ?_
              simp -implicitDefEqProofs (disch := omega) only [seval, go_sem, hl0]
              refine hK12 _ (fun hb => ?_) (fun hb => ?_) <;> clear hK12 <;> clear K12
              · try (replace hb := of_decide_eq_true hb)
                try (exact absurd hb (by decide))
                all_goals
                  refine TWp.sr fun K13 hK13 => ?_
                  simp -implicitDefEqProofs (disch := omega) only [seval, go_sem, hl0]
                  repeat (with_reducible refine ⟨by first | omega | exact Keep.push _ _ | exact KpL.push _ _, ?_⟩)
                  refine c_strings_trimRightASCII ?_ (push_self _ _) hl0
                  simp -implicitDefEqProofs (disch := omega) only [seval, go_sem, hl0]
                  repeat (with_reducible refine ⟨by first | omega | exact Keep.push _ _ | exact KpL.push _ _, ?_⟩)
                  refine c_strings_trimLeftASCII ?_ (push_self _ _) hl0
                  simp -implicitDefEqProofs (disch := omega) only [seval, go_sem, hl0]
                  repeat (with_reducible refine ⟨by first | omega | exact Keep.push _ _ | exact KpL.push _ _, ?_⟩)
                  refine hK13 _ _ ?_; try (clear hK13; clear K13)
                  refine TWp.ret ⟨.inr rfl, [_], ⟨rfl, trivial⟩, ?_⟩
                  exact ⟨rfl, Keep.push _ _⟩
              · try (replace hb := of_decide_eq_false hb)
                try (exact absurd hb (by decide))
                all_goals
                  refine TWp.skip ?_
                  refine hK9 _ _ ?_; try (clear hK9; clear K9)
                  exfalso; omega
theorem c_strings_Trim {S : TS} {s cut : Bs} {K : TV → TS → Prop} (hK : K (.lit (.string (st (cutL (setOf cut) (cutR (setOf cut) s))))) S) (hs : ∀ c ∈ cut, c.toNat < 128) (h2 : 2 ≤ cut.length := by omega) (hm : s.length ≤ 1000000 := by omega) (hm2 : cut.length ≤ 1000000 := by omega) : TCall env 175 [.lit (.string (st s)), .lit (.string (st cut))] S K :=
  (TCall.pure (c_strings_Trim_ok S s cut h2 hs hm hm2) (.lit _)).mono fun t S' ⟨h1, h2⟩ => by rw [h1, h2]; exact hK
theorem right_trim {s cut : Bs} (h1 : 1 ≤ s.length) (h2 : s.length ≤ 40) (h3 : (s.getD 0 0#8).toNat ≠ 46) (hX : ∀ c : BitVec 8, (setOf cut).getD c.toNat false = okc c) : rightS s = decide (cutL (setOf cut) (cutR (setOf cut) s) = []) := by
  rw [cut_all, rightS, decide_eq_true h1, decide_eq_true h2, decide_eq_true h3]
  simp only [Bool.true_and]
  congr 1
  funext c
  exact (hX c).symm
set_option maxRecDepth 8000 in
set_option maxHeartbeats 1000000 in
theorem c_name_Right_ok (S : TS) (s : Bs) : TCall env 145 [.lit (.string (st s))] S fun r S' => r = .lit (.bool (rightS s)) ∧ S' = S := by
  refine TCall.of 21 [.tmp 2] Tryz.func145 rfl rfl rfl rfl (by kernel_rfl) rfl ?_
  refine TWp.sr fun K0 hK0 => ?_
  simp -implicitDefEqProofs (disch := omega) only [seval, go_sem]
  repeat (with_reducible refine ⟨by first | omega | exact Keep.push _ _ | exact KpL.push _ _, ?_⟩)
  refine hK0 _ _ ?_; try (clear hK0; clear K0)
  refine TWp.sr fun K1 hK1 => ?_
  simp -implicitDefEqProofs (disch := omega) only [seval, go_sem]
  repeat' (first | with_reducible refine ⟨by first | omega | exact Keep.push _ _ | exact KpL.push _ _, ?_⟩ | (refine brT_split (fun hb => ?_) (fun hb => ?_) <;> (have hb' := hb; try simp only [decide_eq_true_eq, decide_eq_false_iff_not] at hb') <;> simp -implicitDefEqProofs (disch := omega) only [seval, go_sem, hb]))
  all_goals try (refine c_strings_Trim ?_ (by decide) (by decide) (by omega) (by decide); simp -implicitDefEqProofs (disch := omega) only [seval, go_sem])
  all_goals
    refine hK1 _ _ ?_; try (clear hK1; clear K1)
    refine TWp.ret ⟨.inr rfl, [_], ⟨rfl, trivial⟩, ?_⟩
    first | exact rb (right_no (by omega)) rfl | exact rb (right_trim (by omega) (by omega) (by omega) (by decide +kernel)) rfl
theorem c_name_Right {S : TS} {s : Bs} {K : TV → TS → Prop} (hK : K (.lit (.bool (rightS s))) S) : TCall env 145 [.lit (.string (st s))] S K :=
  (c_name_Right_ok S s).mono fun t S' ⟨h1, h2⟩ => by rw [h1, h2]; exact hK
theorem c_godownref07_Right {S : TS} {s : Bs} {K : TV → TS → Prop} (hK : K (.lit (.bool (rightS s))) S) : TCall env 79 [.lit (.string (st s))] S K :=
  (c_godownref07_Right_ok S s).mono fun t S' ⟨h1, h2⟩ => by rw [h1, h2]; exact hK
end Go.Proofs.YtoldjfappfbfbaaGreatDoor
namespace Go.Proofs.YtoldjfappfbfbaaGreatDoor
open Go.RowKit TL
def b32 : Bs := [48#8, 49#8, 50#8, 51#8, 52#8, 53#8, 54#8, 55#8, 56#8, 57#8, 97#8, 98#8, 99#8, 100#8, 102#8, 103#8, 104#8, 105#8, 106#8, 107#8, 108#8, 109#8, 110#8, 112#8, 113#8, 114#8, 115#8, 118#8, 119#8, 120#8, 121#8, 122#8]
theorem b32_lit : (⟨#[48, 49, 50, 51, 52, 53, 54, 55, 56, 57, 97, 98, 99, 100, 102, 103, 104, 105, 106, 107, 108, 109, 110, 112, 113, 114, 115, 118, 119, 120, 121, 122]⟩ : ByteArray) = st b32 := rfl
theorem b32_len : b32.length = 32 := rfl
attribute [go_sem high] b32_lit
attribute [go_sem] b32_len
def idxS (s : Bs) (c : BitVec 8) : Int :=
  match (List.range s.length).find? fun i => s.getD i 0#8 == c with
  | some i => i
  | none => -1
theorem find_congr {α : Type} {p q : α → Bool} : ∀ {l : List α}, (∀ x ∈ l, p x = q x) → l.find? p = l.find? q
  | [], _ => rfl
  | x :: l, h => by
    simp only [List.find?_cons, h x (by simp)]
    rw [find_congr (l := l) fun y hy => h y (by simp [hy])]
theorem firstIdx_st (s : Bs) (c : BitVec 8) : firstIdx (st s) (c.toNat : Int).toNat.toUInt8 = idxS s c := by
  unfold firstIdx idxS
  suffices key : (List.range s.length).find? (fun i => (st s)[i]! == (c.toNat : Int).toNat.toUInt8) = (List.range s.length).find? (fun i => s.getD i 0#8 == c)  by
    rw [st_size, key]
    generalize (List.range s.length).find? (fun i => s.getD i 0#8 == c) = o
    cases o <;> rfl
  refine find_congr fun i hi => ?_
  rw [List.mem_range] at hi
  have h1 : (st s)[i]! = UInt8.ofBitVec (s.getD i 0#8) := by
    rw [getElem!_pos (st s) i (by rw [st_size]; exact hi), List.getD_eq_getElem?_getD, List.getElem?_eq_getElem hi]
    show (st s).data[i]'_ = _
    simp only [st, List.getElem_toArray, List.getElem_map]
    rfl
  rw [h1, Int.toNat_natCast, Bool.eq_iff_iff, beq_iff_eq, beq_iff_eq]
  have h2 : c.toNat.toUInt8 = UInt8.ofBitVec c := by
    apply UInt8.toNat_inj.1
    show c.toNat % 256 = c.toNat
    exact Nat.mod_eq_of_lt c.isLt
  rw [h2]
  exact ⟨fun h => by have := congrArg UInt8.toBitVec h; simpa using this, fun h => by rw [h]⟩
theorem idxS_some {s : Bs} {c : BitVec 8} {i : Nat} (h : i < s.length) (hc : s.getD i 0#8 = c) (hn : ∀ j, j < i → s.getD j 0#8 ≠ c) : idxS s c = i := by
  unfold idxS
  have : (List.range s.length).find? (fun i => s.getD i 0#8 == c) = some i := by
    rw [List.find?_range_eq_some]
    exact ⟨by rw [hc]; simp, List.mem_range.2 h, fun j hj => by simpa using hn j hj⟩
  rw [this]
theorem idxS_none {s : Bs} {c : BitVec 8} (hn : ∀ j, j < s.length → s.getD j 0#8 ≠ c) : idxS s c = -1 := by
  unfold idxS
  have : (List.range s.length).find? (fun i => s.getD i 0#8 == c) = none := by
    rw [List.find?_eq_none]
    intro j hj
    simpa using hn j (List.mem_range.1 hj)
  rw [this]
theorem TCall.of_extern {E : Env} {f : FuncId} {fn : Func} {e : Array Value → Sem Value} {args : List TV} {S : TS} {R : TV → TS → Prop} (hf : E.P.funcs[f]? = some fn) (hname : (fn.name == "runtime.NumGoroutine") = false) (hb : fn.body.isNone = true) (hn : Extern.findNext fn = none) (he : Extern.find fn = some e)
    (h : ∀ w0 c w vs, Ok E w0 c S w → RdCells c w args vs → ∃ v w', (e vs).run E.P w = .ok v w' ∧ Fin E w0 c w R v w') : TCall E f args S R := fun w0 c w vs hk hv => by
  obtain ⟨v, w', h1, h2⟩ := h w0 c w vs hk hv
  exact .inr ⟨v, w', by rw [run_callFunc_extern hf hname hb hn he, h1]; rfl, h2⟩
theorem rdCells_two {c : Cx} {w : World} {a b : Value} {vs : Array Value} (h : RdCells c w [.lit a, .lit b] vs) : vs = #[a, b] := by
  have h0 := h.size
  apply Array.ext
  · simpa using h0
  · intro i h1 h2
    have h3 : i < 2 := by simpa using h2
    match i, h3 with
    | 0, _ => exact (h.rd 0 _ _ rfl (Array.getElem?_eq_getElem h1)).lit_inv
    | 1, _ => exact (h.rd 1 _ _ rfl (Array.getElem?_eq_getElem h1)).lit_inv
theorem c_bytealg_IndexByteString {S : TS} {s : Bs} {c : BitVec 8} {K : TV → TS → Prop} (hK : K (.lit (.int .i64 (idxS s c))) S) : TCall env 233 [.lit (.string (st s)), .lit (.int .u8 (c.toNat : Int))] S K := by
  refine TCall.of_extern (e := Extern.BytealgIndexByte.indexByte) Tryz.func233 rfl rfl (by kernel_rfl) (by kernel_rfl) fun w0 c0 w vs hk hv => ?_
  rw [rdCells_two hv]
  refine ⟨_, _, run_indexByte_string (P := env.P) (st s) (c.toNat : Int) w, _, c0, S, hk, Mono.refl _ _, ?_, hK⟩
  rw [firstIdx_st]
  exact .lit _
set_option maxRecDepth 8000 in
set_option maxHeartbeats 1000000 in
theorem c_stringslite_IndexByte_ok (S : TS) (s : Bs) (c : BitVec 8) : TCall env 232 [.lit (.string (st s)), .lit (.int .u8 (c.toNat : Int))] S fun r S' => r = .lit (.int .i64 (idxS s c)) ∧ S' = S := by
  refine TCall.of 8 [.tmp 4] Tryz.func232 rfl rfl rfl rfl (by kernel_rfl) rfl ?_
  refine TWp.sr fun K0 hK0 => ?_
  simp -implicitDefEqProofs (disch := omega) only [seval, go_sem]
  repeat (with_reducible refine ⟨by first | omega | exact Keep.push _ _ | exact KpL.push _ _, ?_⟩)
  refine hK0 _ _ ?_; try (clear hK0; clear K0)
  refine TWp.sr fun K1 hK1 => ?_
  simp -implicitDefEqProofs (disch := omega) only [seval, go_sem]
  repeat (with_reducible refine ⟨by first | omega | exact Keep.push _ _ | exact KpL.push _ _, ?_⟩)
  refine c_bytealg_IndexByteString ?_
  simp -implicitDefEqProofs (disch := omega) only [seval, go_sem]
  repeat (with_reducible refine ⟨by first | omega | exact Keep.push _ _ | exact KpL.push _ _, ?_⟩)
  refine hK1 _ _ ?_; try (clear hK1; clear K1)
  refine TWp.ret ⟨.inr rfl, [_], ⟨rfl, trivial⟩, ?_⟩
  exact ⟨rfl, rfl⟩
theorem c_stringslite_IndexByte {S : TS} {s : Bs} {c : BitVec 8} {K : TV → TS → Prop} (hK : K (.lit (.int .i64 (idxS s c))) S) : TCall env 232 [.lit (.string (st s)), .lit (.int .u8 (c.toNat : Int))] S K :=
  (c_stringslite_IndexByte_ok S s c).mono fun t S' ⟨h1, h2⟩ => by rw [h1, h2]; exact hK
set_option maxRecDepth 8000 in
set_option maxHeartbeats 1000000 in
theorem c_strings_IndexByte_ok (S : TS) (s : Bs) (c : BitVec 8) : TCall env 228 [.lit (.string (st s)), .lit (.int .u8 (c.toNat : Int))] S fun r S' => r = .lit (.int .i64 (idxS s c)) ∧ S' = S := by
  refine TCall.of 8 [.tmp 4] Tryz.func228 rfl rfl rfl rfl (by kernel_rfl) rfl ?_
  refine TWp.sr fun K0 hK0 => ?_
  simp -implicitDefEqProofs (disch := omega) only [seval, go_sem]
  repeat (with_reducible refine ⟨by first | omega | exact Keep.push _ _ | exact KpL.push _ _, ?_⟩)
  refine hK0 _ _ ?_; try (clear hK0; clear K0)
  refine TWp.sr fun K1 hK1 => ?_
  simp -implicitDefEqProofs (disch := omega) only [seval, go_sem]
  repeat (with_reducible refine ⟨by first | omega | exact Keep.push _ _ | exact KpL.push _ _, ?_⟩)
  refine c_stringslite_IndexByte ?_
  simp -implicitDefEqProofs (disch := omega) only [seval, go_sem]
  repeat (with_reducible refine ⟨by first | omega | exact Keep.push _ _ | exact KpL.push _ _, ?_⟩)
  refine hK1 _ _ ?_; try (clear hK1; clear K1)
  refine TWp.ret ⟨.inr rfl, [_], ⟨rfl, trivial⟩, ?_⟩
  exact ⟨rfl, rfl⟩
theorem c_strings_IndexByte {S : TS} {s : Bs} {c : BitVec 8} {K : TV → TS → Prop} (hK : K (.lit (.int .i64 (idxS s c))) S) : TCall env 228 [.lit (.string (st s)), .lit (.int .u8 (c.toNat : Int))] S K :=
  (c_strings_IndexByte_ok S s c).mono fun t S' ⟨h1, h2⟩ => by rw [h1, h2]; exact hK
set_option maxRecDepth 8000 in
set_option maxHeartbeats 1000000 in
theorem c_godownref03_value_ok (S : TS) (c : BitVec 8) : TCall env 172 [.lit (.int .u8 (c.toNat : Int))] S fun r S' => r = .lit (.int .i64 (idxS b32 c)) ∧ S' = S := by
  have hl := b32_len
  refine TCall.of 13 [.tmp 2] Tryz.func172 rfl rfl rfl rfl (by kernel_rfl) rfl ?_
  refine TWp.sr fun K0 hK0 => ?_
  simp -implicitDefEqProofs (disch := omega) only [seval, go_sem]
  repeat (with_reducible refine ⟨by first | omega | exact Keep.push _ _ | exact KpL.push _ _, ?_⟩)
  refine hK0 _ _ ?_; try (clear hK0; clear K0)
  refine TWp.seq_k fun K1 hK1 => ?_
  refine TWp.sr fun K2 hK2 => ?_
  simp -implicitDefEqProofs (disch := omega) only [seval, go_sem]
  repeat (with_reducible refine ⟨by first | omega | exact Keep.push _ _ | exact KpL.push _ _, ?_⟩)
  refine hK2 _ _ ?_; try (clear hK2; clear K2)
  refine TWp.block ?_
  refine TWp.loop (fun n T S' => ∃ i : Nat, n + i = 32 ∧ T 0 = .lit (.int .u8 (c.toNat : Int)) ∧ T 3 = .lit (.int .i64 (i : Int)) ∧ (∀ j, j < i → b32.getD j 0#8 ≠ c) ∧ S' = S) (32) ?_ ?_
  · exact ⟨0, rfl, rfl, rfl, fun j hj => absurd hj (by omega), rfl⟩
  rintro n T S' ⟨i, hi, h0, h3, ha, hS⟩
  refine TWp.seq_k fun K3 hK3 => ?_
  refine TWp.sr fun K4 hK4 => ?_
  simp -implicitDefEqProofs (disch := omega) only [seval, go_sem, h0, h3]
  repeat (with_reducible refine ⟨by first | omega | exact Keep.push _ _ | exact KpL.push _ _, ?_⟩)
  refine hK4 _ _ ?_; try (clear hK4; clear K4)
  refine TWp.cond_k fun K5 hK5 => ?_
  simp -implicitDefEqProofs (disch := omega) only [seval, go_sem, h0, h3]
  refine hK5 _ (fun hb => ?_) (fun hb => ?_) <;> clear hK5 <;> clear K5
  · try (replace hb := of_decide_eq_true hb)
    refine TWp.skip ?_
    refine hK3 _ _ ?_; try (clear hK3; clear K3)
    refine TWp.seq_k fun K6 hK6 => ?_
    refine TWp.block ?_
    refine TWp.sr fun K7 hK7 => ?_
    simp -implicitDefEqProofs (disch := omega) only [seval, go_sem, h0, h3]
    repeat (with_reducible refine ⟨by first | omega | exact Keep.push _ _ | exact KpL.push _ _, ?_⟩)
    refine hK7 _ _ ?_; try (clear hK7; clear K7)
    refine TWp.cond_k fun K8 hK8 => ?_
    simp -implicitDefEqProofs (disch := omega) only [seval, go_sem, h0, h3]
    refine hK8 _ (fun hb => ?_) (fun hb => ?_) <;> clear hK8 <;> clear K8
    · try (replace hb := of_decide_eq_true hb)
      refine TWp.sr fun K9 hK9 => ?_
      simp -implicitDefEqProofs (disch := omega) only [seval, go_sem, h0, h3]
      repeat (with_reducible refine ⟨by first | omega | exact Keep.push _ _ | exact KpL.push _ _, ?_⟩)
      refine hK9 _ _ ?_; try (clear hK9; clear K9)
      refine TWp.ret ⟨.inr rfl, [_], ⟨rfl, trivial⟩, ?_⟩
      exact ⟨by show TV.lit _ = _; rw [idxS_some (by rw [b32_len]; omega) (BitVec.eq_of_toNat_eq (by omega)) ha], hS⟩
    · try (replace hb := of_decide_eq_false hb)
      refine TWp.skip ?_
      refine hK6 _ _ ?_; try (clear hK6; clear K6)
      refine TWp.rk fun K10 hK10 => ?_
      simp -implicitDefEqProofs (disch := omega) only [seval, go_sem, h0, h3]
      repeat (with_reducible refine ⟨by first | omega | exact Keep.push _ _ | exact KpL.push _ _, ?_⟩)
      refine hK10 _ _ ?_; try (clear hK10; clear K10)
      exact ⟨n - 1, by omega, i + 1, by omega, h0, rfl, fun j hj => by
        rcases Nat.lt_succ_iff_lt_or_eq.1 hj with h | h
        · exact ha j h
        · rw [h]; intro e; exact hb (by rw [e]), hS⟩
  · try (replace hb := of_decide_eq_false hb)
    refine TWp.exit ?_
    refine hK1 _ _ ?_; try (clear hK1; clear K1)
    refine TWp.sr fun K11 hK11 => ?_
    simp -implicitDefEqProofs (disch := omega) only [seval, go_sem, h0, h3]
    repeat (with_reducible refine ⟨by first | omega | exact Keep.push _ _ | exact KpL.push _ _, ?_⟩)
    refine hK11 _ _ ?_; try (clear hK11; clear K11)
    refine TWp.ret ⟨.inr rfl, [_], ⟨rfl, trivial⟩, ?_⟩
    exact ⟨by show TV.lit _ = _; rw [idxS_none fun j hj => ha j (by rw [b32_len] at hj; omega)], hS⟩
end Go.Proofs.YtoldjfappfbfbaaGreatDoor
namespace Go.Proofs.YtoldjfappfbfbaaGreatDoor
open Go.RowKit TL
theorem quoN (P : Program) (ty : TypeId) (a : Nat) (b : Int) (h : 0 < b ∧ a < 9223372036854775808) : tvBin P .quo ty (.int .i64 (a : Int)) (.int .i64 b) = some (.int .i64 ((a / b.toNat : Nat) : Int)) := by
  obtain ⟨n, rfl⟩ : ∃ n : Nat, b = (n : Int) := ⟨b.toNat, by omega⟩
  have h2 : a / n ≤ a := Nat.div_le_self a n
  rw [quoI _ _ _ _ (by omega) (by rw [← Int.ofNat_tdiv]; generalize a / n = q at h2 ⊢; omega), ← Int.ofNat_tdiv]
  rfl
attribute [go_sem high] quoN
def bitN (p : Bs) (i : Nat) : Nat := if i / 8 < p.length then ((p.getD (i / 8) 0#8) >>> (7 - i % 8)).toNat % 2 else 0
set_option maxRecDepth 8000 in
set_option maxHeartbeats 1000000 in
theorem c_godownref03_bit_ok (S : TS) (g : Tag) (p : Bs) (i : Nat) (hp : p.length ≤ 1000000) (hi : i ≤ 10000000) : TCall env 119 [.sl g 1 (dB p), .lit (.int .i64 (i : Int))] S fun r S' => r = .lit (.int .i64 (bitN p i : Int)) ∧ S' = S := by
  refine TCall.of 21 [.tmp 4] Tryz.func119 rfl rfl rfl rfl (by kernel_rfl) rfl ?_
  refine TWp.sr fun K0 hK0 => ?_
  simp -implicitDefEqProofs (disch := omega) only [seval, go_sem]
  repeat (with_reducible refine ⟨by first | omega | exact Keep.push _ _ | exact KpL.push _ _, ?_⟩)
  refine hK0 _ _ ?_; try (clear hK0; clear K0)
  refine TWp.seq_k fun K1 hK1 => ?_
  refine TWp.sr fun K2 hK2 => ?_
  simp -implicitDefEqProofs (disch := omega) only [seval, go_sem]
  repeat (with_reducible refine ⟨by first | omega | exact Keep.push _ _ | exact KpL.push _ _, ?_⟩)
  refine hK2 _ _ ?_; try (clear hK2; clear K2)
  refine TWp.cond_k fun K3 hK3 => ?_
  simp -implicitDefEqProofs (disch := omega) only [seval, go_sem]
  refine hK3 _ (fun hb => ?_) (fun hb => ?_) <;> clear hK3 <;> clear K3
  · try (replace hb := of_decide_eq_true hb)
    refine TWp.sr fun K4 hK4 => ?_
    simp -implicitDefEqProofs (disch := omega) only [seval, go_sem]
    repeat (with_reducible refine ⟨by first | omega | exact Keep.push _ _ | exact KpL.push _ _, ?_⟩)
    refine hK4 _ _ ?_; try (clear hK4; clear K4)
    refine TWp.ret ⟨.inr rfl, [_], ⟨rfl, trivial⟩, ?_⟩
    exact ⟨by show TV.lit _ = _; rw [bitN, if_neg (by omega)]; rfl, rfl⟩
  · try (replace hb := of_decide_eq_false hb)
    refine TWp.skip ?_
    refine hK1 _ _ ?_; try (clear hK1; clear K1)
    refine TWp.sr fun K5 hK5 => ?_
    simp -implicitDefEqProofs (disch := omega) only [seval, go_sem]
    repeat (with_reducible refine ⟨by first | omega | exact Keep.push _ _ | exact KpL.push _ _, ?_⟩)
    refine hK5 _ _ ?_; try (clear hK5; clear K5)
    refine TWp.ret ⟨.inr rfl, [_], ⟨rfl, trivial⟩, ?_⟩
    refine ⟨?_, rfl⟩
    show TV.lit _ = _
    rw [bitN, if_pos (by omega)]
theorem c_godownref03_bit {S : TS} {g : Tag} {p : Bs} {i : Nat} {K : TV → TS → Prop} (hK : K (.lit (.int .i64 (bitN p i : Int))) S) (hp : p.length ≤ 1000000 := by omega) (hi : i ≤ 10000000 := by omega) : TCall env 119 [.sl g 1 (dB p), .lit (.int .i64 (i : Int))] S K :=
  (c_godownref03_bit_ok S g p i hp hi).mono fun t S' ⟨h1, h2⟩ => by rw [h1, h2]; exact hK
def bitsN (p : Bs) (i : Nat) : Nat → Nat
  | 0 => 0
  | k + 1 => 2 * bitsN p i k + bitN p (i + k)
theorem bitN_lt (p : Bs) (i : Nat) : bitN p i < 2 := by unfold bitN; split <;> omega
theorem bitsN_lt (p : Bs) (i : Nat) : ∀ k, bitsN p i k < 2 ^ k
  | 0 => by simp [bitsN]
  | k + 1 => by have := bitsN_lt p i k; have := bitN_lt p (i + k); simp only [bitsN, Nat.pow_succ]; omega
def txtN (p : Bs) : Nat → Bs
  | 0 => []
  | j + 1 => txtN p j ++ [b32.getD (bitsN p (5 * j) 5) 0#8]
/-- Bytes as letters. -/
def txtS (p : Bs) : Bs := txtN p ((8 * p.length + 4) / 5)
theorem txtN_len (p : Bs) : ∀ j, (txtN p j).length = j
  | 0 => rfl
  | j + 1 => by simp [txtN, txtN_len p j]
set_option maxRecDepth 8000 in
set_option maxHeartbeats 1000000 in
theorem c_godownref03_Text_ok (S : TS) (g : Tag) (p : Bs) (hp : p.length ≤ 100000) : TCall env 84 [.sl g 1 (dB p)] S fun r S' => r = .lit (.string (st (txtS p))) ∧ Keep S S' := by
  have hl := b32_len
  refine TCall.of 33 [.tmp 2] Tryz.func84 rfl rfl rfl rfl (by kernel_rfl) rfl ?_
  refine TWp.sr fun K0 hK0 => ?_
  simp -implicitDefEqProofs (disch := omega) only [seval, go_sem]
  repeat (with_reducible refine ⟨by first | omega | exact Keep.push _ _ | exact KpL.push _ _, ?_⟩)
  refine hK0 _ _ ?_; try (clear hK0; clear K0)
  refine TWp.sr fun K1 hK1 => ?_
  simp -implicitDefEqProofs (disch := omega) only [seval, go_sem]
  repeat (with_reducible refine ⟨by first | omega | exact Keep.push _ _ | exact KpL.push _ _, ?_⟩)
  refine hK1 _ _ ?_; try (clear hK1; clear K1)
  refine TWp.seq_k fun K2 hK2 => ?_
  refine TWp.sr fun K3 hK3 => ?_
  simp -implicitDefEqProofs (disch := omega) only [seval, go_sem]
  repeat (with_reducible refine ⟨by first | omega | exact Keep.push _ _ | exact KpL.push _ _, ?_⟩)
  refine hK3 _ _ ?_; try (clear hK3; clear K3)
  refine TWp.block ?_
  refine TWp.asRow 3 1 rfl (.inl rfl) ?_
  refine TWp.loop (fun n T S' => ∃ j k, n + 5 * j = 8 * p.length + 4 ∧ T 0 = .sl g 1 (dB p) ∧ T 3 = .sl (.own k) 1 (dB (txtN p j)) ∧ T 4 = .lit (.int .i64 ((5 * j : Nat) : Int)) ∧ S.n ≤ k ∧ S'.objs k = .lin ∧ Keep S S') (8 * p.length + 4) ?_ ?_
  · exact ⟨0, S.n, rfl, rfl, rfl, rfl, Nat.le_refl _, push_self _ _, Keep.push _ _⟩
  rintro n T S' ⟨j, k, hj, h0, h3, h4, hk, ho, hS⟩
  have htl := txtN_len p j
  obtain ⟨S1, hS1⟩ : ∃ S1, S1 = S' := ⟨_, rfl⟩
  refine TWp.seq_k fun K4 hK4 => ?_
  refine TWp.sr fun K5 hK5 => ?_
  simp -implicitDefEqProofs (disch := omega) only [seval, go_sem, h0, h3, h4, ho, htl]
  repeat (with_reducible refine ⟨by first | omega | exact Keep.push _ _ | exact KpL.push _ _, ?_⟩)
  refine hK5 _ _ ?_; try (clear hK5; clear K5)
  refine TWp.cond_k fun K6 hK6 => ?_
  simp -implicitDefEqProofs (disch := omega) only [seval, go_sem, h0, h3, h4, ho, htl]
  refine hK6 _ (fun hb => ?_) (fun hb => ?_) <;> clear hK6 <;> clear K6
  · try (replace hb := of_decide_eq_true hb)
    refine TWp.skip ?_
    refine hK4 _ _ ?_; try (clear hK4; clear K4)
    refine TWp.seq_k fun K7 hK7 => ?_
    refine TWp.block ?_
    refine TWp.sr fun K8 hK8 => ?_
    simp -implicitDefEqProofs (disch := omega) only [seval, go_sem, h0, h3, h4, ho, htl]
    repeat (with_reducible refine ⟨by first | omega | exact Keep.push _ _ | exact KpL.push _ _, ?_⟩)
    refine hK8 _ _ ?_; try (clear hK8; clear K8)
    refine TWp.seq_k fun K9 hK9 => ?_
    refine TWp.sr fun K10 hK10 => ?_
    simp -implicitDefEqProofs (disch := omega) only [seval, go_sem, h0, h3, h4, ho, htl]
    repeat (with_reducible refine ⟨by first | omega | exact Keep.push _ _ | exact KpL.push _ _, ?_⟩)
    refine hK10 _ _ ?_; try (clear hK10; clear K10)
    refine TWp.block ?_
    refine TWp.loop (fun n T S' => ∃ q, n + q = 5 ∧ T 0 = .sl g 1 (dB p) ∧ T 3 = .sl (.own k) 1 (dB (txtN p j)) ∧ T 4 = .lit (.int .i64 ((5 * j : Nat) : Int)) ∧ T 5 = .lit (.int .i64 (bitsN p (5 * j) q : Int)) ∧ T 6 = .lit (.int .i64 (q : Int)) ∧ S' = S1) (5) ?_ ?_
    · exact ⟨0, rfl, h0, h3, h4, rfl, rfl, hS1.symm⟩
    rintro n T S' ⟨q, hq, h0, h3, h4, h5, h6, hS2⟩
    have hbl := bitsN_lt p (5 * j) q
    have hbl2 : 2 ^ q ≤ 2 ^ 5 := Nat.pow_le_pow_right (by omega) (by omega)
    have hbl3 := bitN_lt p (5 * j + q)
    rw [hS1] at hS2
    rw [← hS2] at ho hS
    refine TWp.seq_k fun K11 hK11 => ?_
    refine TWp.sr fun K12 hK12 => ?_
    simp -implicitDefEqProofs (disch := omega) only [seval, go_sem, h0, h3, h4, h5, h6, ho, htl]
    repeat (with_reducible refine ⟨by first | omega | exact Keep.push _ _ | exact KpL.push _ _, ?_⟩)
    refine hK12 _ _ ?_; try (clear hK12; clear K12)
    refine TWp.cond_k fun K13 hK13 => ?_
    simp -implicitDefEqProofs (disch := omega) only [seval, go_sem, h0, h3, h4, h5, h6, ho, htl]
    refine hK13 _ (fun hb => ?_) (fun hb => ?_) <;> clear hK13 <;> clear K13
    · try (replace hb := of_decide_eq_true hb)
      refine TWp.skip ?_
      refine hK11 _ _ ?_; try (clear hK11; clear K11)
      refine TWp.seq_k fun K14 hK14 => ?_
      refine TWp.block ?_
      refine TWp.rk fun K15 hK15 => ?_
      simp -implicitDefEqProofs (disch := omega) only [seval, go_sem, h0, h3, h4, h5, h6, ho, htl]
      repeat (with_reducible refine ⟨by first | omega | exact Keep.push _ _ | exact KpL.push _ _, ?_⟩)
      refine c_godownref03_bit ?_
      simp -implicitDefEqProofs (disch := omega) only [seval, go_sem, h0, h3, h4, h5, h6, ho, htl]
      repeat (with_reducible refine ⟨by first | omega | exact Keep.push _ _ | exact KpL.push _ _, ?_⟩)
      refine hK15 _ _ ?_; try (clear hK15; clear K15)
      refine hK14 _ _ ?_; try (clear hK14; clear K14)
      refine TWp.rk fun K16 hK16 => ?_
      simp -implicitDefEqProofs (disch := omega) only [seval, go_sem, h0, h3, h4, h5, h6, ho, htl]
      repeat (with_reducible refine ⟨by first | omega | exact Keep.push _ _ | exact KpL.push _ _, ?_⟩)
      refine hK16 _ _ ?_; try (clear hK16; clear K16)
      exact ⟨n - 1, by omega, q + 1, by omega, h0, h3, h4, rfl, rfl, hS2.trans hS1.symm⟩
    · try (replace hb := of_decide_eq_false hb)
      refine TWp.exit ?_
      refine hK9 _ _ ?_; try (clear hK9; clear K9)
      refine TWp.rk fun K17 hK17 => ?_
      simp -implicitDefEqProofs (disch := omega) only [seval, go_sem, h0, h3, h4, h5, h6, ho, htl]
      repeat (with_reducible refine ⟨by first | omega | exact Keep.push _ _ | exact KpL.push _ _, ?_⟩)
      refine hK17 _ _ ?_; try (clear hK17; clear K17)
      refine hK7 _ _ ?_; try (clear hK7; clear K7)
      refine TWp.rk fun K18 hK18 => ?_
      simp -implicitDefEqProofs (disch := omega) only [seval, go_sem, h0, h3, h4, h5, h6, ho, htl]
      repeat (with_reducible refine ⟨by first | omega | exact Keep.push _ _ | exact KpL.push _ _, ?_⟩)
      refine hK18 _ _ ?_; try (clear hK18; clear K18)
      have h5' : q = 5 := by omega
      subst h5'
      exact ⟨8 * p.length + 4 - 5 * (j + 1), by omega, j + 1, S'.n, by omega, h0, by show TV.sl _ _ _ = _; rw [txtN, dB_app]; rfl, by show TV.lit _ = _; rw [Nat.mul_succ], hS.1, push_self (S'.set k .gone) _, (hS.set hk _).push' _⟩
  · try (replace hb := of_decide_eq_false hb)
    refine TWp.exit ?_
    refine hK2 _ _ ?_; try (clear hK2; clear K2)
    refine TWp.sr fun K19 hK19 => ?_
    simp -implicitDefEqProofs (disch := omega) only [seval, go_sem, h0, h3, h4, ho, htl]
    repeat (with_reducible refine ⟨by first | omega | exact Keep.push _ _ | exact KpL.push _ _, ?_⟩)
    refine hK19 _ _ ?_; try (clear hK19; clear K19)
    refine TWp.ret ⟨.inr rfl, [_], ⟨rfl, trivial⟩, ?_⟩
    exact ⟨by show TV.lit _ = _; rw [txtS, show (8 * p.length + 4) / 5 = j by omega], hS⟩
theorem c_godownref03_Text {S : TS} {g : Tag} {p : Bs} {K : TV → TS → Prop} (hK : K (.lit (.string (st (txtS p)))) S) (hp : p.length ≤ 100000 := by omega) : TCall env 84 [.sl g 1 (dB p)] S K :=
  (TCall.pure (c_godownref03_Text_ok S g p hp) (.lit _)).mono fun t S' ⟨h1, h2⟩ => by rw [h1, h2]; exact hK
end Go.Proofs.YtoldjfappfbfbaaGreatDoor
namespace Go.Proofs.YtoldjfappfbfbaaGreatDoor
open Go.RowKit TL
theorem shrN (P : Program) (ty : TypeId) (a : Nat) {k' : IntKind} (b : Int) (h : 0 ≤ b ∧ b < 64) : tvBin P .shr ty (.int .i64 (a : Int)) (.int k' b) = some (.int .i64 ((a >>> b.toNat : Nat) : Int)) := by
  obtain ⟨n, rfl⟩ : ∃ n : Nat, b = (n : Int) := ⟨b.toNat, by omega⟩
  simp only [tvBin]
  rw [if_pos (by simp)]
  simp only [tvShift]
  rw [if_neg (by omega)]
  have h1 : min (n : Int).toNat IntKind.i64.bits = n := by
    show min (n : Int).toNat 64 = n
    rw [Int.toNat_natCast]; omega
  have h3 : ((a : Int)).fdiv (2 ^ n) = ((a >>> n : Nat) : Int) := by
    rw [Int.fdiv_eq_ediv_of_nonneg _ (Int.le_of_lt (Int.pow_pos (by decide))), Nat.shiftRight_eq_div_pow]
    simp
  rw [h1, h3, Int.toNat_natCast]
attribute [go_sem high] shrN
theorem c_godownref03_value {S : TS} {c : BitVec 8} {K : TV → TS → Prop} (hK : K (.lit (.int .i64 (idxS b32 c))) S) : TCall env 172 [.lit (.int .u8 (c.toNat : Int))] S K :=
  (c_godownref03_value_ok S c).mono fun t S' ⟨h1, h2⟩ => by rw [h1, h2]; exact hK
/-- The first q bits of five. -/
def fiveB (v : Nat) : Nat → List Int
  | 0 => []
  | q + 1 => fiveB v q ++ [(((v >>> (4 - q)) % 2 : Nat) : Int)]
def allB (s : Bs) : Nat → List Int
  | 0 => []
  | i + 1 => allB s i ++ fiveB (idxS b32 (s.getD i 0#8)).toNat 5
theorem fiveB_len (v : Nat) : ∀ q, (fiveB v q).length = q
  | 0 => rfl
  | q + 1 => by simp [fiveB, fiveB_len v q]
theorem allB_len (s : Bs) : ∀ i, (allB s i).length = 5 * i
  | 0 => rfl
  | i + 1 => by simp [allB, allB_len s i, fiveB_len]; omega
theorem fiveB_bit (v : Nat) : ∀ q, ∀ x ∈ fiveB v q, 0 ≤ x ∧ x ≤ 1
  | 0, x, h => by cases h
  | q + 1, x, h => by
    simp only [fiveB, List.mem_append, List.mem_singleton] at h
    rcases h with h | h
    · exact fiveB_bit v q x h
    · subst h; omega
theorem allB_bit (s : Bs) : ∀ i, ∀ x ∈ allB s i, 0 ≤ x ∧ x ≤ 1
  | 0, x, h => by cases h
  | i + 1, x, h => by
    simp only [allB, List.mem_append] at h
    rcases h with h | h
    · exact allB_bit s i x h
    · exact fiveB_bit _ _ x h
def accB (bl : List Int) (o : Nat) : Nat → Int
  | 0 => 0
  | k + 1 => 2 * accB bl o k + bl.getD (o + k) 0
def packB (bl : List Int) : Nat → Bs
  | 0 => []
  | j + 1 => packB bl j ++ [BitVec.ofInt 8 (accB bl (8 * j) 8)]
theorem packB_len (bl : List Int) : ∀ j, (packB bl j).length = j
  | 0 => rfl
  | j + 1 => by simp [packB, packB_len bl j]
theorem getD_bit {bl : List Int} (h : ∀ x ∈ bl, 0 ≤ x ∧ x ≤ 1) (i : Nat) : 0 ≤ bl.getD i 0 ∧ bl.getD i 0 ≤ 1 := by
  rw [List.getD_eq_getElem?_getD]
  rcases hi : bl[i]? with _ | x
  · simp
  · exact h x (List.mem_of_getElem? hi)
theorem accB_lt {bl : List Int} (h : ∀ x ∈ bl, 0 ≤ x ∧ x ≤ 1) (o : Nat) : ∀ k, k ≤ 8 → 0 ≤ accB bl o k ∧ accB bl o k < 2 ^ k
  | 0, _ => by simp [accB]
  | k + 1, hk => by
    have h1 := accB_lt h o k (by omega); have h2 := getD_bit h (o + k)
    rw [Int.pow_succ]
    simp only [accB]; omega
def okB (s : Bs) : Bool := s.all fun c => decide (0 ≤ idxS b32 c)
def dec3 (s : Bs) : Option Bs :=
  if okB s = true ∧ ((allB s s.length).drop (8 * (5 * s.length / 8))).all (fun x => decide (x = 0)) = true ∧ 5 * s.length % 8 ≤ 4 then some (packB (allB s s.length) (5 * s.length / 8)) else none
theorem dec3_no2 {s : Bs} (h : ((allB s s.length).drop (8 * (5 * s.length / 8))).all (fun x => decide (x = 0)) = false) : dec3 s = none := by
  unfold dec3
  rw [if_neg]
  rintro ⟨_, h1, _⟩
  rw [h] at h1; cases h1
theorem dec3_no3 {s : Bs} (h : 4 < 5 * s.length % 8) : dec3 s = none := by
  unfold dec3
  rw [if_neg]
  rintro ⟨_, _, h1⟩
  omega
theorem dec3_yes {s : Bs} (h1 : okB s = true) (h2 : ((allB s s.length).drop (8 * (5 * s.length / 8))).all (fun x => decide (x = 0)) = true) (h3 : 5 * s.length % 8 ≤ 4) : dec3 s = some (packB (allB s s.length) (5 * s.length / 8)) := by
  unfold dec3
  rw [if_pos ⟨h1, h2, h3⟩]
theorem dec3_no1 {s : Bs} {i : Nat} (hi : i < s.length) (h : idxS b32 (s.getD i 0#8) < 0) : dec3 s = none := by
  unfold dec3
  rw [if_neg]
  rintro ⟨h1, _⟩
  rw [okB, all_not (d := 0#8) hi (decide_eq_false (by omega))] at h1
  cases h1
set_option maxRecDepth 8000 in
set_option maxHeartbeats 1000000 in
theorem c_godownref03_Bytes_ok (S : TS) (s : Bs) (hs : s.length ≤ 100000) : TCall env 140 [.lit (.string (st s))] S fun r S' => ((dec3 s = none ∧ r = .tup [.sl .full 0 [], .lit (.int .i64 2)]) ∨ ∃ p k, dec3 s = some p ∧ r = .tup [.sl (.own k) 1 (dB p), .lit (.int .i64 0)] ∧ S.n ≤ k ∧ S'.objs k = .lin) ∧ Keep S S' := by
  refine TCall.of 82 [.tmp 2, .tmp 3] Tryz.func140 rfl rfl rfl rfl (by kernel_rfl) rfl ?_
  refine TWp.sr fun K0 hK0 => ?_
  simp -implicitDefEqProofs (disch := omega) only [seval, go_sem]
  repeat (with_reducible refine ⟨by first | omega | exact Keep.push _ _ | exact KpL.push _ _, ?_⟩)
  refine hK0 _ _ ?_; try (clear hK0; clear K0)
  refine TWp.sr fun K1 hK1 => ?_
  simp -implicitDefEqProofs (disch := omega) only [seval, go_sem]
  repeat (with_reducible refine ⟨by first | omega | exact Keep.push _ _ | exact KpL.push _ _, ?_⟩)
  refine hK1 _ _ ?_; try (clear hK1; clear K1)
  refine TWp.seq_k fun K2 hK2 => ?_
  refine TWp.sr fun K3 hK3 => ?_
  simp -implicitDefEqProofs (disch := omega) only [seval, go_sem]
  repeat (with_reducible refine ⟨by first | omega | exact Keep.push _ _ | exact KpL.push _ _, ?_⟩)
  refine hK3 _ _ ?_; try (clear hK3; clear K3)
  refine TWp.block ?_
  refine TWp.asRow 4 1 rfl (.inl rfl) ?_
  refine TWp.loop (fun n T S' => ∃ i k, n + i = s.length ∧ T 0 = .lit (.string (st s)) ∧ T 2 = .sl .full 0 [] ∧ T 4 = .sl (.own k) 1 (dI (allB s i)) ∧ T 5 = .lit (.int .i64 (i : Int)) ∧ (s.take i).all (fun c => decide (0 ≤ idxS b32 c)) = true ∧ S.n ≤ k ∧ S'.objs k = .lin ∧ Keep S S') (s.length) ?_ ?_
  · exact ⟨0, S.n, rfl, rfl, rfl, rfl, rfl, rfl, Nat.le_refl _, push_self _ _, Keep.push _ _⟩
  rintro n T S' ⟨i, k, hi, h0, h2, h4, h5, ha, hk, ho, hS⟩
  obtain ⟨n', hn'⟩ : ∃ n', n' = n := ⟨_, rfl⟩
  rw [← hn'] at hi
  have hal := allB_len s i
  refine TWp.seq_k fun K4 hK4 => ?_
  refine TWp.sr fun K5 hK5 => ?_
  simp -implicitDefEqProofs (disch := omega) only [seval, go_sem, h0, h2, h4, h5, ho, hal]
  repeat (with_reducible refine ⟨by first | omega | exact Keep.push _ _ | exact KpL.push _ _, ?_⟩)
  refine hK5 _ _ ?_; try (clear hK5; clear K5)
  refine TWp.cond_k fun K6 hK6 => ?_
  simp -implicitDefEqProofs (disch := omega) only [seval, go_sem, h0, h2, h4, h5, ho, hal]
  refine hK6 _ (fun hb => ?_) (fun hb => ?_) <;> clear hK6 <;> clear K6
  · try (replace hb := of_decide_eq_true hb)
    refine TWp.skip ?_
    refine hK4 _ _ ?_; try (clear hK4; clear K4)
    refine TWp.seq_k fun K7 hK7 => ?_
    refine TWp.block ?_
    refine TWp.sr fun K8 hK8 => ?_
    simp -implicitDefEqProofs (disch := omega) only [seval, go_sem, h0, h2, h4, h5, ho, hal]
    repeat (with_reducible refine ⟨by first | omega | exact Keep.push _ _ | exact KpL.push _ _, ?_⟩)
    refine c_godownref03_value ?_
    simp -implicitDefEqProofs (disch := omega) only [seval, go_sem, h0, h2, h4, h5, ho, hal]
    repeat (with_reducible refine ⟨by first | omega | exact Keep.push _ _ | exact KpL.push _ _, ?_⟩)
    refine hK8 _ _ ?_; try (clear hK8; clear K8)
    refine TWp.seq_k fun K9 hK9 => ?_
    refine TWp.sr fun K10 hK10 => ?_
    simp -implicitDefEqProofs (disch := omega) only [seval, go_sem, h0, h2, h4, h5, ho, hal]
    repeat (with_reducible refine ⟨by first | omega | exact Keep.push _ _ | exact KpL.push _ _, ?_⟩)
    refine hK10 _ _ ?_; try (clear hK10; clear K10)
    refine TWp.cond_k fun K11 hK11 => ?_
    simp -implicitDefEqProofs (disch := omega) only [seval, go_sem, h0, h2, h4, h5, ho, hal]
    refine hK11 _ (fun hb => ?_) (fun hb => ?_) <;> clear hK11 <;> clear K11
    · try (replace hb := of_decide_eq_true hb)
      refine TWp.sr fun K12 hK12 => ?_
      simp -implicitDefEqProofs (disch := omega) only [seval, go_sem, h0, h2, h4, h5, ho, hal]
      repeat (with_reducible refine ⟨by first | omega | exact Keep.push _ _ | exact KpL.push _ _, ?_⟩)
      refine hK12 _ _ ?_; try (clear hK12; clear K12)
      refine TWp.ret ⟨.inr rfl, [_, _], ⟨rfl, rfl, trivial⟩, ?_⟩
      exact ⟨.inl ⟨dec3_no1 (i := i) (by omega) (by omega), rfl⟩, hS⟩
    · try (replace hb := of_decide_eq_false hb)
      refine TWp.skip ?_
      refine hK9 _ _ ?_; try (clear hK9; clear K9)
      refine TWp.sr fun K13 hK13 => ?_
      simp -implicitDefEqProofs (disch := omega) only [seval, go_sem, h0, h2, h4, h5, ho, hal]
      repeat (with_reducible refine ⟨by first | omega | exact Keep.push _ _ | exact KpL.push _ _, ?_⟩)
      refine hK13 _ _ ?_; try (clear hK13; clear K13)
      refine TWp.block ?_
      obtain ⟨v, hv⟩ : ∃ v : Nat, v = (idxS b32 (s.getD i 0#8)).toNat := ⟨_, rfl⟩
      refine TWp.loop (fun n T S' => ∃ q k, n + q = 5 ∧ T 0 = .lit (.string (st s)) ∧ T 2 = .sl .full 0 [] ∧ T 4 = .sl (.own k) 1 (dI (allB s i ++ fiveB v q)) ∧ T 5 = .lit (.int .i64 (i : Int)) ∧ T 6 = .lit (.int .i64 (v : Int)) ∧ T 7 = .lit (.int .i64 (4 - (q : Int))) ∧ S.n ≤ k ∧ S'.objs k = .lin ∧ Keep S S') (5) ?_ ?_
      · exact ⟨0, k, rfl, h0, h2, by rw [fiveB, List.append_nil]; exact h4, h5, by show TV.lit _ = _; rw [hv, Int.toNat_of_nonneg (by omega)], rfl, hk, ho, hS⟩
      rintro n T S' ⟨q, k, hq, h0, h2, h4, h5, h6, h7, hk, ho, hS⟩
      have hfl := fiveB_len v q
      have hal2 : (allB s i ++ fiveB v q).length = 5 * i + q := by rw [List.length_append, hal, hfl]
      refine TWp.seq_k fun K14 hK14 => ?_
      refine TWp.sr fun K15 hK15 => ?_
      simp -implicitDefEqProofs (disch := omega) only [seval, go_sem, h0, h2, h4, h5, h6, h7, ho, hal2]
      repeat (with_reducible refine ⟨by first | omega | exact Keep.push _ _ | exact KpL.push _ _, ?_⟩)
      refine hK15 _ _ ?_; try (clear hK15; clear K15)
      refine TWp.cond_k fun K16 hK16 => ?_
      simp -implicitDefEqProofs (disch := omega) only [seval, go_sem, h0, h2, h4, h5, h6, h7, ho, hal2]
      refine hK16 _ (fun hb => ?_) (fun hb => ?_) <;> clear hK16 <;> clear K16
      · try (replace hb := of_decide_eq_true hb)
        refine TWp.skip ?_
        refine hK14 _ _ ?_; try (clear hK14; clear K14)
        refine TWp.seq_k fun K17 hK17 => ?_
        refine TWp.block ?_
        refine TWp.rk fun K18 hK18 => ?_
        simp -implicitDefEqProofs (disch := omega) only [seval, go_sem, h0, h2, h4, h5, h6, h7, ho, hal2]
        repeat (with_reducible refine ⟨by first | omega | exact Keep.push _ _ | exact KpL.push _ _, ?_⟩)
        refine hK18 _ _ ?_; try (clear hK18; clear K18)
        refine hK17 _ _ ?_; try (clear hK17; clear K17)
        refine TWp.rk fun K19 hK19 => ?_
        simp -implicitDefEqProofs (disch := omega) only [seval, go_sem, h0, h2, h4, h5, h6, h7, ho, hal2]
        repeat (with_reducible refine ⟨by first | omega | exact Keep.push _ _ | exact KpL.push _ _, ?_⟩)
        refine hK19 _ _ ?_; try (clear hK19; clear K19)
        exact ⟨n - 1, by omega, q + 1, S'.n, by omega, h0, h2, by show TV.sl _ _ _ = _; rw [fiveB, ← List.append_assoc, dI_app (allB s i ++ fiveB v q)]; rfl, h5, h6, by show TV.lit _ = _; congr 2; omega, hS.1, push_self (S'.set k .gone) _, (hS.set hk _).push' _⟩
      · try (replace hb := of_decide_eq_false hb)
        refine TWp.exit ?_
        refine hK7 _ _ ?_; try (clear hK7; clear K7)
        refine TWp.rk fun K20 hK20 => ?_
        simp -implicitDefEqProofs (disch := omega) only [seval, go_sem, h0, h2, h4, h5, h6, h7, ho, hal2]
        repeat (with_reducible refine ⟨by first | omega | exact Keep.push _ _ | exact KpL.push _ _, ?_⟩)
        refine hK20 _ _ ?_; try (clear hK20; clear K20)
        have h5' : q = 5 := by omega
        subst h5'
        exact ⟨n' - 1, by omega, i + 1, k, by omega, h0, h2, by rw [allB, ← hv]; exact h4, rfl, take_all (d := 0#8) ha (by omega) (decide_eq_true (by omega)), hk, ho, hS⟩
  · try (replace hb := of_decide_eq_false hb)
    refine TWp.exit ?_
    refine hK2 _ _ ?_; try (clear hK2; clear K2)
    refine TWp.sr fun K21 hK21 => ?_
    simp -implicitDefEqProofs (disch := omega) only [seval, go_sem, h0, h2, h4, h5, ho, hal]
    repeat (with_reducible refine ⟨by first | omega | exact Keep.push _ _ | exact KpL.push _ _, ?_⟩)
    refine hK21 _ _ ?_; try (clear hK21; clear K21)
    refine TWp.seq_k fun K22 hK22 => ?_
    refine TWp.sr fun K23 hK23 => ?_
    simp -implicitDefEqProofs (disch := omega) only [seval, go_sem, h0, h2, h4, h5, ho, hal]
    repeat (with_reducible refine ⟨by first | omega | exact Keep.push _ _ | exact KpL.push _ _, ?_⟩)
    refine hK23 _ _ ?_; try (clear hK23; clear K23)
    refine TWp.block ?_
    refine TWp.asRow 8 1 rfl (.inl rfl) ?_
    have hie : i = s.length := by omega
    subst hie
    obtain ⟨bl, hbe⟩ : ∃ bl, bl = allB s s.length := ⟨_, rfl⟩
    have hbl : bl.length = 5 * s.length := by rw [hbe, allB_len]
    have hbit : ∀ x ∈ bl, 0 ≤ x ∧ x ≤ 1 := by rw [hbe]; exact allB_bit s _
    refine TWp.loop (fun n T S' => ∃ j k k2, n + 8 * j = 5 * s.length ∧ T 2 = .sl .full 0 [] ∧ T 4 = .sl (.own k2) 1 (dI bl) ∧ T 8 = .sl (.own k) 1 (dB (packB bl j)) ∧ T 9 = .lit (.int .i64 ((8 * j : Nat) : Int)) ∧ S.n ≤ k ∧ S'.objs k = .lin ∧ Keep S S') (5 * s.length) ?_ ?_
    · exact ⟨0, S'.n, k, rfl, h2, by rw [hbe]; exact h4, rfl, rfl, hS.1, push_self _ _, hS.push' _⟩
    rintro n T S' ⟨j, k, k2, hj, h2, h4, h8, h9, hk, ho, hS⟩
    have hpl := packB_len bl j
    obtain ⟨S1, hS1⟩ : ∃ S1, S1 = S' := ⟨_, rfl⟩
    refine TWp.seq_k fun K24 hK24 => ?_
    refine TWp.sr fun K25 hK25 => ?_
    simp -implicitDefEqProofs (disch := omega) only [seval, go_sem, h2, h4, h8, h9, ho, hpl, hbl]
    repeat (with_reducible refine ⟨by first | omega | exact Keep.push _ _ | exact KpL.push _ _, ?_⟩)
    refine hK25 _ _ ?_; try (clear hK25; clear K25)
    refine TWp.cond_k fun K26 hK26 => ?_
    simp -implicitDefEqProofs (disch := omega) only [seval, go_sem, h2, h4, h8, h9, ho, hpl, hbl]
    refine hK26 _ (fun hb => ?_) (fun hb => ?_) <;> clear hK26 <;> clear K26
    · try (replace hb := of_decide_eq_true hb)
      refine TWp.skip ?_
      refine hK24 _ _ ?_; try (clear hK24; clear K24)
      refine TWp.seq_k fun K27 hK27 => ?_
      refine TWp.block ?_
      refine TWp.sr fun K28 hK28 => ?_
      simp -implicitDefEqProofs (disch := omega) only [seval, go_sem, h2, h4, h8, h9, ho, hpl, hbl]
      repeat (with_reducible refine ⟨by first | omega | exact Keep.push _ _ | exact KpL.push _ _, ?_⟩)
      refine hK28 _ _ ?_; try (clear hK28; clear K28)
      refine TWp.seq_k fun K29 hK29 => ?_
      refine TWp.sr fun K30 hK30 => ?_
      simp -implicitDefEqProofs (disch := omega) only [seval, go_sem, h2, h4, h8, h9, ho, hpl, hbl]
      repeat (with_reducible refine ⟨by first | omega | exact Keep.push _ _ | exact KpL.push _ _, ?_⟩)
      refine hK30 _ _ ?_; try (clear hK30; clear K30)
      refine TWp.block ?_
      refine TWp.loop (fun n T S' => ∃ q, n + q = 8 ∧ T 2 = .sl .full 0 [] ∧ T 4 = .sl (.own k2) 1 (dI bl) ∧ T 8 = .sl (.own k) 1 (dB (packB bl j)) ∧ T 9 = .lit (.int .i64 ((8 * j : Nat) : Int)) ∧ T 10 = .lit (.int .i64 (accB bl (8 * j) q)) ∧ T 11 = .lit (.int .i64 (q : Int)) ∧ S' = S1) (8) ?_ ?_
      · exact ⟨0, rfl, h2, h4, h8, h9, rfl, rfl, hS1.symm⟩
      rintro n T S' ⟨q, hq, h2, h4, h8, h9, h10, h11, hS2⟩
      have hac := accB_lt hbit (8 * j) q (by omega)
      have hac2 : (2 : Int) ^ q ≤ 256 := by have := Nat.pow_le_pow_right (n := 2) (by omega) (show q ≤ 8 by omega); exact_mod_cast this
      have hgb := getD_bit hbit (8 * j + q)
      rw [hS1] at hS2
      rw [← hS2] at ho hS
      refine TWp.seq_k fun K31 hK31 => ?_
      refine TWp.sr fun K32 hK32 => ?_
      simp -implicitDefEqProofs (disch := omega) only [seval, go_sem, h2, h4, h8, h9, h10, h11, ho, hpl, hbl]
      repeat (with_reducible refine ⟨by first | omega | exact Keep.push _ _ | exact KpL.push _ _, ?_⟩)
      refine hK32 _ _ ?_; try (clear hK32; clear K32)
      refine TWp.cond_k fun K33 hK33 => ?_
      simp -implicitDefEqProofs (disch := omega) only [seval, go_sem, h2, h4, h8, h9, h10, h11, ho, hpl, hbl]
      refine hK33 _ (fun hb => ?_) (fun hb => ?_) <;> clear hK33 <;> clear K33
      · try (replace hb := of_decide_eq_true hb)
        refine TWp.skip ?_
        refine hK31 _ _ ?_; try (clear hK31; clear K31)
        refine TWp.seq_k fun K34 hK34 => ?_
        refine TWp.block ?_
        refine TWp.rk fun K35 hK35 => ?_
        simp -implicitDefEqProofs (disch := omega) only [seval, go_sem, h2, h4, h8, h9, h10, h11, ho, hpl, hbl]
        repeat (with_reducible refine ⟨by first | omega | exact Keep.push _ _ | exact KpL.push _ _, ?_⟩)
        refine hK35 _ _ ?_; try (clear hK35; clear K35)
        refine hK34 _ _ ?_; try (clear hK34; clear K34)
        refine TWp.rk fun K36 hK36 => ?_
        simp -implicitDefEqProofs (disch := omega) only [seval, go_sem, h2, h4, h8, h9, h10, h11, ho, hpl, hbl]
        repeat (with_reducible refine ⟨by first | omega | exact Keep.push _ _ | exact KpL.push _ _, ?_⟩)
        refine hK36 _ _ ?_; try (clear hK36; clear K36)
        exact ⟨n - 1, by omega, q + 1, by omega, h2, h4, h8, h9, rfl, rfl, hS2.trans hS1.symm⟩
      · try (replace hb := of_decide_eq_false hb)
        refine TWp.exit ?_
        refine hK29 _ _ ?_; try (clear hK29; clear K29)
        refine TWp.rk fun K37 hK37 => ?_
        simp -implicitDefEqProofs (disch := omega) only [seval, go_sem, h2, h4, h8, h9, h10, h11, ho, hpl, hbl]
        repeat (with_reducible refine ⟨by first | omega | exact Keep.push _ _ | exact KpL.push _ _, ?_⟩)
        refine hK37 _ _ ?_; try (clear hK37; clear K37)
        refine hK27 _ _ ?_; try (clear hK27; clear K27)
        refine TWp.rk fun K38 hK38 => ?_
        simp -implicitDefEqProofs (disch := omega) only [seval, go_sem, h2, h4, h8, h9, h10, h11, ho, hpl, hbl]
        repeat (with_reducible refine ⟨by first | omega | exact Keep.push _ _ | exact KpL.push _ _, ?_⟩)
        refine hK38 _ _ ?_; try (clear hK38; clear K38)
        have h5' : q = 8 := by omega
        subst h5'
        exact ⟨5 * s.length - 8 * (j + 1), by omega, j + 1, S'.n, k2, by omega, h2, h4, by show TV.sl _ _ _ = _; rw [packB, dB_app]; rfl, by show TV.lit _ = _; rw [Nat.mul_succ], hS.1, push_self (S'.set k .gone) _, (hS.set hk _).push' _⟩
    · try (replace hb := of_decide_eq_false hb)
      refine TWp.exit ?_
      refine hK22 _ _ ?_; try (clear hK22; clear K22)
      refine TWp.sr fun K39 hK39 => ?_
      simp -implicitDefEqProofs (disch := omega) only [seval, go_sem, h2, h4, h8, h9, ho, hpl, hbl]
      repeat (with_reducible refine ⟨by first | omega | exact Keep.push _ _ | exact KpL.push _ _, ?_⟩)
      refine hK39 _ _ ?_; try (clear hK39; clear K39)
      refine TWp.seq_k fun K40 hK40 => ?_
      refine TWp.sr fun K41 hK41 => ?_
      simp -implicitDefEqProofs (disch := omega) only [seval, go_sem, h2, h4, h8, h9, ho, hpl, hbl]
      repeat (with_reducible refine ⟨by first | omega | exact Keep.push _ _ | exact KpL.push _ _, ?_⟩)
      refine hK41 _ _ ?_; try (clear hK41; clear K41)
      refine TWp.block ?_
      obtain ⟨rest, hre⟩ : ∃ rest, rest = bl.drop (j * 8) := ⟨_, rfl⟩
      have hjm : j = 5 * s.length / 8 := by omega
      have hre2 : rest = (allB s s.length).drop (8 * (5 * s.length / 8)) := by rw [hre, hbe, ← hjm, Nat.mul_comm]
      have hok : okB s = true := by have := ha; rwa [List.take_length] at this
      have hrl : rest.length = 5 * s.length - 8 * (5 * s.length / 8) := by rw [hre, List.length_drop, hbl]; omega
      obtain ⟨p, hp⟩ : ∃ p, p = packB bl j := ⟨_, rfl⟩
      refine TWp.loop (fun n T S' => ∃ i : Nat, n + i = 5 * s.length - 8 * (5 * s.length / 8) ∧ T 2 = .sl .full 0 [] ∧ T 12 = .sl (.own k2) 1 (dI rest) ∧ T 8 = .sl (.own k) 1 (dB p) ∧ T 13 = .lit (.int .i64 (i : Int)) ∧ (rest.take i).all (fun x => decide (x = 0)) = true ∧ S.n ≤ k ∧ S'.objs k = .lin ∧ Keep S S') (5 * s.length - 8 * (5 * s.length / 8)) ?_ ?_
      · exact ⟨0, by omega, h2, by show TV.sl _ _ _ = _; rw [hre], by rw [hp]; exact h8, rfl, rfl, hk, ho, hS⟩
      rintro n T S' ⟨i, hi, h2, h12, h8, h13, ha2, hk, ho, hS⟩
      refine TWp.seq_k fun K42 hK42 => ?_
      refine TWp.sr fun K43 hK43 => ?_
      simp -implicitDefEqProofs (disch := omega) only [seval, go_sem, h2, h12, h8, h13, ho, hrl]
      repeat (with_reducible refine ⟨by first | omega | exact Keep.push _ _ | exact KpL.push _ _, ?_⟩)
      refine hK43 _ _ ?_; try (clear hK43; clear K43)
      refine TWp.cond_k fun K44 hK44 => ?_
      simp -implicitDefEqProofs (disch := omega) only [seval, go_sem, h2, h12, h8, h13, ho, hrl]
      refine hK44 _ (fun hb => ?_) (fun hb => ?_) <;> clear hK44 <;> clear K44
      · try (replace hb := of_decide_eq_true hb)
        refine TWp.skip ?_
        refine hK42 _ _ ?_; try (clear hK42; clear K42)
        refine TWp.seq_k fun K45 hK45 => ?_
        refine TWp.block ?_
        refine TWp.sr fun K46 hK46 => ?_
        simp -implicitDefEqProofs (disch := omega) only [seval, go_sem, h2, h12, h8, h13, ho, hrl]
        repeat (with_reducible refine ⟨by first | omega | exact Keep.push _ _ | exact KpL.push _ _, ?_⟩)
        refine hK46 _ _ ?_; try (clear hK46; clear K46)
        refine TWp.cond_k fun K47 hK47 => ?_
        simp -implicitDefEqProofs (disch := omega) only [seval, go_sem, h2, h12, h8, h13, ho, hrl]
        refine hK47 _ (fun hb => ?_) (fun hb => ?_) <;> clear hK47 <;> clear K47
        · try (replace hb := of_decide_eq_true hb)
          refine TWp.sr fun K48 hK48 => ?_
          simp -implicitDefEqProofs (disch := omega) only [seval, go_sem, h2, h12, h8, h13, ho, hrl]
          repeat (with_reducible refine ⟨by first | omega | exact Keep.push _ _ | exact KpL.push _ _, ?_⟩)
          refine hK48 _ _ ?_; try (clear hK48; clear K48)
          refine TWp.ret ⟨.inr rfl, [_, _], ⟨rfl, rfl, trivial⟩, ?_⟩
          exact ⟨.inl ⟨dec3_no2 (by rw [← hre2]; exact all_not (i := i) (d := 0) (by omega) (decide_eq_false (by omega))), rfl⟩, hS⟩
        · try (replace hb := of_decide_eq_false hb)
          refine TWp.skip ?_
          refine hK45 _ _ ?_; try (clear hK45; clear K45)
          refine TWp.rk fun K49 hK49 => ?_
          simp -implicitDefEqProofs (disch := omega) only [seval, go_sem, h2, h12, h8, h13, ho, hrl]
          repeat (with_reducible refine ⟨by first | omega | exact Keep.push _ _ | exact KpL.push _ _, ?_⟩)
          refine hK49 _ _ ?_; try (clear hK49; clear K49)
          exact ⟨n - 1, by omega, i + 1, by omega, h2, h12, h8, rfl, take_all (d := 0) ha2 (by omega) (decide_eq_true (by omega)), hk, ho, hS⟩
      · try (replace hb := of_decide_eq_false hb)
        refine TWp.exit ?_
        refine hK40 _ _ ?_; try (clear hK40; clear K40)
        refine TWp.seq_k fun K50 hK50 => ?_
        refine TWp.sr fun K51 hK51 => ?_
        simp -implicitDefEqProofs (disch := omega) only [seval, go_sem, h2, h12, h8, h13, ho, hrl]
        repeat (with_reducible refine ⟨by first | omega | exact Keep.push _ _ | exact KpL.push _ _, ?_⟩)
        refine hK51 _ _ ?_; try (clear hK51; clear K51)
        refine TWp.cond_k fun K52 hK52 => ?_
        simp -implicitDefEqProofs (disch := omega) only [seval, go_sem, h2, h12, h8, h13, ho, hrl]
        refine hK52 _ (fun hb => ?_) (fun hb => ?_) <;> clear hK52 <;> clear K52
        · try (replace hb := of_decide_eq_true hb)
          refine TWp.sr fun K53 hK53 => ?_
          simp -implicitDefEqProofs (disch := omega) only [seval, go_sem, h2, h12, h8, h13, ho, hrl]
          repeat (with_reducible refine ⟨by first | omega | exact Keep.push _ _ | exact KpL.push _ _, ?_⟩)
          refine hK53 _ _ ?_; try (clear hK53; clear K53)
          refine TWp.ret ⟨.inr rfl, [_, _], ⟨rfl, rfl, trivial⟩, ?_⟩
          exact ⟨.inl ⟨dec3_no3 (by omega), rfl⟩, hS⟩
        · try (replace hb := of_decide_eq_false hb)
          refine TWp.skip ?_
          refine hK50 _ _ ?_; try (clear hK50; clear K50)
          refine TWp.sr fun K54 hK54 => ?_
          simp -implicitDefEqProofs (disch := omega) only [seval, go_sem, h2, h12, h8, h13, ho, hrl]
          repeat (with_reducible refine ⟨by first | omega | exact Keep.push _ _ | exact KpL.push _ _, ?_⟩)
          refine hK54 _ _ ?_; try (clear hK54; clear K54)
          refine TWp.ret ⟨.inr rfl, [_, _], ⟨rfl, rfl, trivial⟩, ?_⟩
          have ha3 : rest.all (fun x => decide (x = 0)) = true := by rw [← ha2, List.take_of_length_le (by omega)]
          exact ⟨.inr ⟨p, k, by rw [hp, hbe, hjm]; exact dec3_yes hok (by rw [← hre2]; exact ha3) (by omega), rfl, hk, ho⟩, hS⟩
theorem c_godownref03_Bytes_no {S : TS} {s : Bs} {K : TV → TS → Prop} (hK : K (.tup [.sl .full 0 [], .lit (.int .i64 2)]) S) (hd : dec3 s = none) (hs : s.length ≤ 100000 := by omega) : TCall env 140 [.lit (.string (st s))] S K := by
  refine (TCall.pure (r := .tup [.sl .full 0 [], .lit (.int .i64 2)]) ((c_godownref03_Bytes_ok S s hs).mono ?_) (.tupF (.cons (.sl0 _ _ _ (.inr (.inl rfl))) (.cons (.lit _) .nil)))).mono fun t S' ⟨h1, h2⟩ => by rw [h1, h2]; exact hK
  rintro t S' ⟨⟨_, h2⟩ | ⟨p, k, h1, _⟩, h3⟩
  · exact ⟨h2, h3⟩
  · rw [hd] at h1; cases h1
theorem c_godownref03_Bytes {S : TS} {s p : Bs} {K : TV → TS → Prop} (hK : K (.tup [.sl (.own S.n) 1 (dB p), .lit (.int .i64 0)]) (S.push .lin)) (hd : dec3 s = some p) (hs : s.length ≤ 100000 := by omega) : TCall env 140 [.lit (.string (st s))] S K := by
  refine (c_godownref03_Bytes_ok S s hs).forget fun t S1 hw h => ?_
  rcases h with ⟨⟨h1, _⟩ | ⟨q, k, h1, h2, h3, h4⟩, h5⟩
  · rw [hd] at h1; cases h1
  · rw [hd] at h1; injection h1 with h1; subst h1
    exact ⟨[k], _, _, .row hw h5 h3 h4, by rw [h2]; exact .tupF (.cons (.sl 0 k 1 _ rfl) (.cons (.lit _) .nil)), hK⟩
end Go.Proofs.YtoldjfappfbfbaaGreatDoor
namespace Go.Proofs.YtoldjfappfbfbaaGreatDoor
open Go.RowKit TL
theorem packB_get {bl : List Int} : ∀ {j i : Nat}, i < j → (packB bl j).getD i 0#8 = BitVec.ofInt 8 (accB bl (8 * i) 8)
  | 0, i, h => absurd h (by omega)
  | j + 1, i, h => by
    simp only [packB]
    rw [List.getD_eq_getElem?_getD, List.getElem?_append]
    split
    · rename_i h2
      rw [packB_len] at h2
      rw [← List.getD_eq_getElem?_getD, packB_get h2]
    · rename_i h2
      rw [packB_len] at h2 ⊢
      have : i = j := by omega
      subst this
      simp
theorem acc_bit {bl : List Int} (h : ∀ x ∈ bl, 0 ≤ x ∧ x ≤ 1) (o k : Nat) (hk : k < 8) : (((BitVec.ofInt 8 (accB bl o 8)) >>> (7 - k)).toNat % 2 : Nat) = (bl.getD (o + k) 0).toNat := by
  have b0 := getD_bit h (o + 0); have b1 := getD_bit h (o + 1); have b2 := getD_bit h (o + 2); have b3 := getD_bit h (o + 3)
  have b4 := getD_bit h (o + 4); have b5 := getD_bit h (o + 5); have b6 := getD_bit h (o + 6); have b7 := getD_bit h (o + 7)
  rw [BitVec.toNat_ushiftRight, BitVec.toNat_ofInt, Nat.shiftRight_eq_div_pow]
  simp only [accB]
  have hc : k = 0 ∨ k = 1 ∨ k = 2 ∨ k = 3 ∨ k = 4 ∨ k = 5 ∨ k = 6 ∨ k = 7 := by omega
  generalize hx0 : bl.getD (o + 0) 0 = x0 at *
  generalize hx1 : bl.getD (o + 1) 0 = x1 at *
  generalize hx2 : bl.getD (o + 2) 0 = x2 at *
  generalize hx3 : bl.getD (o + 3) 0 = x3 at *
  generalize hx4 : bl.getD (o + 4) 0 = x4 at *
  generalize hx5 : bl.getD (o + 5) 0 = x5 at *
  generalize hx6 : bl.getD (o + 6) 0 = x6 at *
  generalize hx7 : bl.getD (o + 7) 0 = x7 at *
  rcases hc with rfl | rfl | rfl | rfl | rfl | rfl | rfl | rfl
  · rw [hx0]; simp only [Nat.reduceSub, Nat.reducePow]; omega
  · rw [hx1]; simp only [Nat.reduceSub, Nat.reducePow]; omega
  · rw [hx2]; simp only [Nat.reduceSub, Nat.reducePow]; omega
  · rw [hx3]; simp only [Nat.reduceSub, Nat.reducePow]; omega
  · rw [hx4]; simp only [Nat.reduceSub, Nat.reducePow]; omega
  · rw [hx5]; simp only [Nat.reduceSub, Nat.reducePow]; omega
  · rw [hx6]; simp only [Nat.reduceSub, Nat.reducePow]; omega
  · rw [hx7]; simp only [Nat.reduceSub, Nat.reducePow]; omega
theorem bitN_pack {bl : List Int} (h : ∀ x ∈ bl, 0 ≤ x ∧ x ≤ 1) {j i : Nat} (hi : i < 8 * j) : bitN (packB bl j) i = (bl.getD i 0).toNat := by
  have h1 : i / 8 < j := by omega
  rw [bitN, if_pos (by rw [packB_len]; exact h1), packB_get h1, acc_bit h _ _ (Nat.mod_lt _ (by decide)), show 8 * (i / 8) + i % 8 = i by omega]
theorem bitsN_pack {bl : List Int} (h : ∀ x ∈ bl, 0 ≤ x ∧ x ≤ 1) {j o : Nat} : ∀ k, o + k ≤ 8 * j → (bitsN (packB bl j) o k : Int) = accB bl o k
  | 0, _ => rfl
  | k + 1, hk => by
    have h1 := bitsN_pack (o := o) (j := j) h k (by omega)
    have h2 := getD_bit h (o + k)
    simp only [bitsN, accB]
    rw [bitN_pack h (by omega)]
    omega
theorem allB_get (s : Bs) : ∀ {n i k : Nat}, i < n → k < 5 → (allB s n).getD (5 * i + k) 0 = (fiveB (idxS b32 (s.getD i 0#8)).toNat 5).getD k 0
  | 0, i, k, h, _ => absurd h (by omega)
  | n + 1, i, k, h, hk => by
    simp only [allB]
    rw [List.getD_eq_getElem?_getD, List.getElem?_append]
    split
    · rename_i h2
      rw [allB_len] at h2
      rw [← List.getD_eq_getElem?_getD, allB_get s (n := n) (by omega) hk]
    · rename_i h2
      rw [allB_len] at h2 ⊢
      have : i = n := by omega
      subst this
      rw [← List.getD_eq_getElem?_getD, show 5 * i + k - 5 * i = k by omega]
theorem five_all (v : Nat) (h : v < 32) : 2 * (2 * (2 * (2 * (2 * 0 + (fiveB v 5).getD 0 0) + (fiveB v 5).getD 1 0) + (fiveB v 5).getD 2 0) + (fiveB v 5).getD 3 0) + (fiveB v 5).getD 4 0 = (v : Int) := by
  simp only [fiveB, List.nil_append, List.cons_append, List.getD_cons_zero, List.getD_cons_succ, Nat.shiftRight_eq_div_pow]
  omega
theorem acc_all {s : Bs} {n i : Nat} (hi : i < n) (h0 : idxS b32 (s.getD i 0#8) < 32) : accB (allB s n) (5 * i) 5 = ((idxS b32 (s.getD i 0#8)).toNat : Int) := by
  simp only [accB]
  rw [allB_get s hi (by omega), allB_get s hi (by omega), allB_get s hi (by omega), allB_get s hi (by omega), allB_get s hi (by omega)]
  exact five_all _ (by omega)
theorem idx_spec (c : BitVec 8) : idxS b32 c < 32 ∧ (0 ≤ idxS b32 c → b32.getD (idxS b32 c).toNat 0#8 = c) := by
  unfold idxS
  split
  · rename_i i h
    have h1 := List.mem_range.1 (List.mem_of_find?_eq_some h)
    have h2 := List.find?_some h
    rw [b32_len] at h1
    refine ⟨by omega, fun _ => ?_⟩
    rw [Int.toNat_natCast]
    simpa using h2
  · exact ⟨by decide, fun h => absurd h (by decide)⟩
theorem txtN_pack {s : Bs} (hok : okB s = true) {j : Nat} : ∀ n, n ≤ s.length → 5 * n ≤ 8 * j → txtN (packB (allB s s.length) j) n = s.take n
  | 0, _, _ => by simp [txtN]
  | n + 1, h1, h2 => by
    have hn : n < s.length := by omega
    have ih := txtN_pack hok (j := j) n (by omega) (by omega)
    have hi := idx_spec (s.getD n 0#8)
    have hp : 0 ≤ idxS b32 (s.getD n 0#8) := by
      have := (List.all_eq_true.1 hok) _ (mem_getD hn)
      simpa using this
    have e : bitsN (packB (allB s s.length) j) (5 * n) 5 = (idxS b32 (s.getD n 0#8)).toNat := by
      have := bitsN_pack (allB_bit s s.length) (j := j) (o := 5 * n) 5 (by omega)
      rw [acc_all hn hi.1] at this
      omega
    simp only [txtN]
    rw [ih, e, hi.2 hp, List.take_add_one, List.getElem?_eq_getElem hn, List.getD_eq_getElem?_getD, List.getElem?_eq_getElem hn]
    rfl
/-- Letters whose bits are whole bytes: as bytes and back. -/
theorem txt_pack {s : Bs} (hok : okB s = true) (h : 5 * s.length % 8 = 0) : txtS (packB (allB s s.length) (5 * s.length / 8)) = s := by
  rw [txtS, packB_len, show (8 * (5 * s.length / 8) + 4) / 5 = s.length by omega, txtN_pack hok _ (Nat.le_refl _) (by omega), List.take_length]
theorem dec3_whole {s : Bs} (h : 5 * s.length % 8 = 0) : dec3 s = if okB s = true then some (packB (allB s s.length) (5 * s.length / 8)) else none := by
  unfold dec3
  by_cases hok : okB s = true
  · rw [if_pos hok, if_pos]
    refine ⟨hok, ?_, by omega⟩
    rw [List.drop_of_length_le (by rw [allB_len]; omega)]
    rfl
  · rw [if_neg hok, if_neg fun h => hok h.1]
/-- What a path is: its letters, its name. -/
def splitS (s : Bs) : Option (Bs × Bs) :=
  if 34 ≤ s.length ∧ (s.getD 32 0#8).toNat = 45 ∧ rightS (s.drop 33) = true ∧ okB (s.take 32) = true then some (s.take 32, s.drop 33) else none
def splitV (s : Bs) : TV := match splitS s with
  | some (a, b) => .tup [.lit (.string (st a)), .lit (.string (st b)), .lit (.bool true)]
  | none => .tup [.lit (.string (st [])), .lit (.string (st [])), .lit (.bool false)]
theorem split_no {s : Bs} (h : s.length < 34 ∨ (s.getD 32 0#8).toNat ≠ 45 ∨ rightS (s.drop 33) = false ∨ okB (s.take 32) = false) : splitV s = .tup [.lit (.string (st [])), .lit (.string (st [])), .lit (.bool false)] := by
  have : splitS s = none := by
    unfold splitS
    rw [if_neg]
    rintro ⟨h1, h2, h3, h4⟩
    rcases h with h | h | h | h
    · omega
    · exact h h2
    · rw [h] at h3; cases h3
    · rw [h] at h4; cases h4
  rw [splitV, this]
theorem split_yes {s : Bs} (h1 : 34 ≤ s.length) (h2 : (s.getD 32 0#8).toNat = 45) (h3 : rightS (s.drop 33) = true) (h4 : okB (s.take 32) = true) : splitV s = .tup [.lit (.string (st (s.take 32))), .lit (.string (st (s.drop 33))), .lit (.bool true)] := by
  have : splitS s = some (s.take 32, s.drop 33) := by
    unfold splitS
    rw [if_pos ⟨h1, h2, h3, h4⟩]
  rw [splitV, this]
end Go.Proofs.YtoldjfappfbfbaaGreatDoor
namespace Go.Proofs.YtoldjfappfbfbaaGreatDoor
open Go.RowKit TL
theorem followsN : env.P.follows .mixedOrders = true := by kernel_rfl
set_option maxRecDepth 8000 in
set_option maxHeartbeats 1000000 in
theorem c_godownref07_Split_true (S : TS) (s : Bs) (hs : s.length ≤ 100000) (hok : okB (s.take 32) = true) : TCall env 116 [.lit (.string (st s))] S fun r S' => r = splitV s ∧ Keep S S' := by
  refine TCall.of 33 [.tmp 2, .tmp 3, .tmp 4] Tryz.func116 rfl rfl rfl rfl (by kernel_rfl) rfl ?_
  refine TWp.sr fun K0 hK0 => ?_
  simp -implicitDefEqProofs (disch := omega) only [seval, go_sem]
  repeat (with_reducible refine ⟨by first | omega | exact Keep.push _ _ | exact KpL.push _ _, ?_⟩)
  refine hK0 _ _ ?_; try (clear hK0; clear K0)
  refine TWp.seq_k fun K1 hK1 => ?_
  refine TWp.sr fun K2 hK2 => ?_
  simp -implicitDefEqProofs (disch := omega) only [seval, go_sem]
  repeat' (first | with_reducible refine ⟨by first | omega | exact Keep.push _ _ | exact KpL.push _ _, ?_⟩ | (refine brT_split (fun hb => ?_) (fun hb => ?_) <;> (have hb' := hb; try simp only [decide_eq_true_eq, decide_eq_false_iff_not] at hb') <;> simp -implicitDefEqProofs (disch := omega) only [seval, go_sem, hb]))
  all_goals try (refine c_godownref07_Right ?_; simp -implicitDefEqProofs (disch := omega) only [seval, go_sem])
  all_goals repeat' (first | with_reducible refine ⟨by first | omega | exact Keep.push _ _ | exact KpL.push _ _, ?_⟩ | (refine brT_split (fun hb => ?_) (fun hb => ?_) <;> (have hb' := hb; try simp only [decide_eq_true_eq, decide_eq_false_iff_not] at hb') <;> simp -implicitDefEqProofs (disch := omega) only [seval, go_sem, hb]))
  all_goals
    refine hK2 _ _ ?_; try (clear hK2; clear K2)
    refine TWp.cond_k fun K3 hK3 => ?_
    simp -implicitDefEqProofs (disch := omega) only [seval, go_sem]
    refine hK3 _ (fun hb => ?_) (fun hb => ?_) <;> clear hK3 <;> clear K3
    · try (replace hb := of_decide_eq_true hb)
      try (exact absurd hb (by decide))
      all_goals
        refine TWp.sr fun K4 hK4 => ?_
        simp -implicitDefEqProofs (disch := omega) only [seval, go_sem]
        repeat (with_reducible refine ⟨by first | omega | exact Keep.push _ _ | exact KpL.push _ _, ?_⟩)
        refine hK4 _ _ ?_; try (clear hK4; clear K4)
        refine TWp.ret ⟨.inr rfl, [_, _, _], ⟨rfl, rfl, rfl, trivial⟩, ?_⟩
        exact ⟨(split_no (by first | exact .inl (by omega) | exact .inr (.inl (by omega)) | exact .inr (.inr (.inl (by simpa using hb))))).symm, Keep.refl _⟩
    · try (replace hb := of_decide_eq_false hb)
      try (exact absurd hb (by decide))
      all_goals
        refine TWp.skip ?_
        refine hK1 _ _ ?_; try (clear hK1; clear K1)
        refine TWp.sr fun K5 hK5 => ?_
        simp -implicitDefEqProofs (disch := omega) only [seval, go_sem]
        repeat (with_reducible refine ⟨by first | omega | exact Keep.push _ _ | exact KpL.push _ _, ?_⟩)
        refine c_godownref03_Bytes ?_ ((dec3_whole (by rw [List.length_take]; omega)).trans (if_pos hok)) (by rw [List.length_take]; omega)
        simp -implicitDefEqProofs (disch := omega) only [seval, go_sem]
        repeat (with_reducible refine ⟨by first | omega | exact Keep.push _ _ | exact KpL.push _ _, ?_⟩)
        refine hK5 _ _ ?_; try (clear hK5; clear K5)
        refine TWp.seq_k fun K6 hK6 => ?_
        refine TWp.sr fun K7 hK7 => ?_
        simp -implicitDefEqProofs (disch := omega) only [seval, go_sem]
        repeat (with_reducible refine ⟨by first | omega | exact Keep.push _ _ | exact KpL.push _ _, ?_⟩)
        refine hK7 _ _ ?_; try (clear hK7; clear K7)
        refine TWp.cond_k fun K8 hK8 => ?_
        simp -implicitDefEqProofs (disch := omega) only [seval, go_sem]
        refine hK8 _ (fun hb => ?_) (fun hb => ?_) <;> clear hK8 <;> clear K8
        · try (replace hb := of_decide_eq_true hb)
          try (exact absurd hb (by decide))
          all_goals
            refine TWp.sr fun K9 hK9 => ?_
            simp -implicitDefEqProofs (disch := omega) only [seval, go_sem]
            repeat (with_reducible refine ⟨by first | omega | exact Keep.push _ _ | exact KpL.push _ _, ?_⟩)
            refine hK9 _ _ ?_; try (clear hK9; clear K9)
            refine TWp.ret ⟨.inr rfl, [_, _, _], ⟨rfl, rfl, rfl, trivial⟩, ?_⟩
            skip
        · try (replace hb := of_decide_eq_false hb)
          try (exact absurd hb (by decide))
          all_goals
            refine TWp.skip ?_
            refine hK6 _ _ ?_; try (clear hK6; clear K6)
            refine TWp.sd [(0, 0), (1, 0), (2, 0), (3, 0), (4, 0), (5, 0), (6, 0)] followsN (by kernel_rfl) fun K10 hK10 => ?_
            simp -implicitDefEqProofs (disch := omega) only [seval, go_sem]
            repeat (with_reducible refine ⟨by first | omega | exact Keep.push _ _ | exact KpL.push _ _, ?_⟩)
            refine hK10 _ _ ?_; try (clear hK10; clear K10)
            refine TWp.ret ⟨.inr rfl, [_, _, _], ⟨rfl, rfl, rfl, trivial⟩, ?_⟩
            exact ⟨(split_yes (by omega) (by omega) (by simpa using ‹(!rightS (s.drop 33)) = false›) hok).symm, Keep.push _ _⟩
set_option maxRecDepth 8000 in
set_option maxHeartbeats 1000000 in
theorem c_godownref07_Split_false (S : TS) (s : Bs) (hs : s.length ≤ 100000) (hok : okB (s.take 32) = false) : TCall env 116 [.lit (.string (st s))] S fun r S' => r = splitV s ∧ Keep S S' := by
  refine TCall.of 33 [.tmp 2, .tmp 3, .tmp 4] Tryz.func116 rfl rfl rfl rfl (by kernel_rfl) rfl ?_
  refine TWp.sr fun K0 hK0 => ?_
  simp -implicitDefEqProofs (disch := omega) only [seval, go_sem]
  repeat (with_reducible refine ⟨by first | omega | exact Keep.push _ _ | exact KpL.push _ _, ?_⟩)
  refine hK0 _ _ ?_; try (clear hK0; clear K0)
  refine TWp.seq_k fun K1 hK1 => ?_
  refine TWp.sr fun K2 hK2 => ?_
  simp -implicitDefEqProofs (disch := omega) only [seval, go_sem]
  repeat' (first | with_reducible refine ⟨by first | omega | exact Keep.push _ _ | exact KpL.push _ _, ?_⟩ | (refine brT_split (fun hb => ?_) (fun hb => ?_) <;> (have hb' := hb; try simp only [decide_eq_true_eq, decide_eq_false_iff_not] at hb') <;> simp -implicitDefEqProofs (disch := omega) only [seval, go_sem, hb]))
  all_goals try (refine c_godownref07_Right ?_; simp -implicitDefEqProofs (disch := omega) only [seval, go_sem])
  all_goals repeat' (first | with_reducible refine ⟨by first | omega | exact Keep.push _ _ | exact KpL.push _ _, ?_⟩ | (refine brT_split (fun hb => ?_) (fun hb => ?_) <;> (have hb' := hb; try simp only [decide_eq_true_eq, decide_eq_false_iff_not] at hb') <;> simp -implicitDefEqProofs (disch := omega) only [seval, go_sem, hb]))
  all_goals
    refine hK2 _ _ ?_; try (clear hK2; clear K2)
    refine TWp.cond_k fun K3 hK3 => ?_
    simp -implicitDefEqProofs (disch := omega) only [seval, go_sem]
    refine hK3 _ (fun hb => ?_) (fun hb => ?_) <;> clear hK3 <;> clear K3
    · try (replace hb := of_decide_eq_true hb)
      try (exact absurd hb (by decide))
      all_goals
        refine TWp.sr fun K4 hK4 => ?_
        simp -implicitDefEqProofs (disch := omega) only [seval, go_sem]
        repeat (with_reducible refine ⟨by first | omega | exact Keep.push _ _ | exact KpL.push _ _, ?_⟩)
        refine hK4 _ _ ?_; try (clear hK4; clear K4)
        refine TWp.ret ⟨.inr rfl, [_, _, _], ⟨rfl, rfl, rfl, trivial⟩, ?_⟩
        exact ⟨(split_no (by first | exact .inl (by omega) | exact .inr (.inl (by omega)) | exact .inr (.inr (.inl (by simpa using hb))))).symm, Keep.refl _⟩
    · try (replace hb := of_decide_eq_false hb)
      try (exact absurd hb (by decide))
      all_goals
        refine TWp.skip ?_
        refine hK1 _ _ ?_; try (clear hK1; clear K1)
        refine TWp.sr fun K5 hK5 => ?_
        simp -implicitDefEqProofs (disch := omega) only [seval, go_sem]
        repeat (with_reducible refine ⟨by first | omega | exact Keep.push _ _ | exact KpL.push _ _, ?_⟩)
        refine c_godownref03_Bytes_no ?_ ((dec3_whole (by rw [List.length_take]; omega)).trans (if_neg (by rw [hok]; simp))) (by rw [List.length_take]; omega)
        simp -implicitDefEqProofs (disch := omega) only [seval, go_sem]
        repeat (with_reducible refine ⟨by first | omega | exact Keep.push _ _ | exact KpL.push _ _, ?_⟩)
        refine hK5 _ _ ?_; try (clear hK5; clear K5)
        refine TWp.seq_k fun K6 hK6 => ?_
        refine TWp.sr fun K7 hK7 => ?_
        simp -implicitDefEqProofs (disch := omega) only [seval, go_sem]
        repeat (with_reducible refine ⟨by first | omega | exact Keep.push _ _ | exact KpL.push _ _, ?_⟩)
        refine hK7 _ _ ?_; try (clear hK7; clear K7)
        refine TWp.cond_k fun K8 hK8 => ?_
        simp -implicitDefEqProofs (disch := omega) only [seval, go_sem]
        refine hK8 _ (fun hb => ?_) (fun hb => ?_) <;> clear hK8 <;> clear K8
        · try (replace hb := of_decide_eq_true hb)
          try (exact absurd hb (by decide))
          all_goals
            refine TWp.sr fun K9 hK9 => ?_
            simp -implicitDefEqProofs (disch := omega) only [seval, go_sem]
            repeat (with_reducible refine ⟨by first | omega | exact Keep.push _ _ | exact KpL.push _ _, ?_⟩)
            refine hK9 _ _ ?_; try (clear hK9; clear K9)
            refine TWp.ret ⟨.inr rfl, [_, _, _], ⟨rfl, rfl, rfl, trivial⟩, ?_⟩
            exact ⟨(split_no (.inr (.inr (.inr hok)))).symm, Keep.refl _⟩
        · try (replace hb := of_decide_eq_false hb)
          try (exact absurd hb (by decide))
          all_goals
            refine TWp.skip ?_
            refine hK6 _ _ ?_; try (clear hK6; clear K6)
            refine TWp.sd [(0, 0), (1, 0), (2, 0), (3, 0), (4, 0), (5, 0), (6, 0)] followsN (by kernel_rfl) fun K10 hK10 => ?_
            simp -implicitDefEqProofs (disch := omega) only [seval, go_sem]
            repeat (with_reducible refine ⟨by first | omega | exact Keep.push _ _ | exact KpL.push _ _, ?_⟩)
            refine hK10 _ _ ?_; try (clear hK10; clear K10)
            refine TWp.ret ⟨.inr rfl, [_, _, _], ⟨rfl, rfl, rfl, trivial⟩, ?_⟩
            skip
theorem ren_splitV (n : Nat) (s : Bs) : Ren n [] (splitV s) (splitV s) := by
  unfold splitV
  split
  · exact .tupF (.cons (.lit _) (.cons (.lit _) (.cons (.lit _) .nil)))
  · exact .tupF (.cons (.lit _) (.cons (.lit _) (.cons (.lit _) .nil)))
theorem c_godownref07_Split {S : TS} {s : Bs} {K : TV → TS → Prop} (hK : K (splitV s) S) (hs : s.length ≤ 100000 := by omega) : TCall env 116 [.lit (.string (st s))] S K := by
  refine (TCall.pure (r := splitV s) ?_ (ren_splitV _ _)).mono fun t S' ⟨h1, h2⟩ => by rw [h1, h2]; exact hK
  cases hok : okB (s.take 32)
  · exact c_godownref07_Split_false S s hs hok
  · exact c_godownref07_Split_true S s hs hok
def splitA (s : Bs) : Bs := match splitS s with | some (a, _) => a | none => []
def splitB (s : Bs) : Bs := match splitS s with | some (_, b) => b | none => []
def isP (s : Bs) : Bool := (splitS s).isSome
theorem splitV_eq (s : Bs) : splitV s = .tup [.lit (.string (st (splitA s))), .lit (.string (st (splitB s))), .lit (.bool (isP s))] := by
  unfold splitV splitA splitB isP
  rcases splitS s with _ | ⟨a, b⟩ <;> rfl
set_option maxRecDepth 8000 in
set_option maxHeartbeats 1000000 in
theorem c_godownref07_Is_ok (S : TS) (s : Bs) (hs : s.length ≤ 100000) : TCall env 80 [.lit (.string (st s))] S fun r S' => r = .lit (.bool (isP s)) ∧ S' = S := by
  refine TCall.of 13 [.tmp 2] Tryz.func80 rfl rfl rfl rfl (by kernel_rfl) rfl ?_
  refine TWp.sr fun K0 hK0 => ?_
  simp -implicitDefEqProofs (disch := omega) only [seval, go_sem]
  repeat (with_reducible refine ⟨by first | omega | exact Keep.push _ _ | exact KpL.push _ _, ?_⟩)
  refine hK0 _ _ ?_; try (clear hK0; clear K0)
  refine TWp.sr fun K1 hK1 => ?_
  simp -implicitDefEqProofs (disch := omega) only [seval, go_sem]
  repeat (with_reducible refine ⟨by first | omega | exact Keep.push _ _ | exact KpL.push _ _, ?_⟩)
  refine c_godownref07_Split ?_
  rw [splitV_eq]
  simp -implicitDefEqProofs (disch := omega) only [seval, go_sem]
  repeat (with_reducible refine ⟨by first | omega | exact Keep.push _ _ | exact KpL.push _ _, ?_⟩)
  refine hK1 _ _ ?_; try (clear hK1; clear K1)
  refine TWp.sr fun K2 hK2 => ?_
  simp -implicitDefEqProofs (disch := omega) only [seval, go_sem]
  repeat (with_reducible refine ⟨by first | omega | exact Keep.push _ _ | exact KpL.push _ _, ?_⟩)
  refine hK2 _ _ ?_; try (clear hK2; clear K2)
  refine TWp.ret ⟨.inr rfl, [_], ⟨rfl, trivial⟩, ?_⟩
  exact ⟨rfl, rfl⟩
theorem c_godownref07_Is {S : TS} {s : Bs} {K : TV → TS → Prop} (hK : K (.lit (.bool (isP s))) S) (hs : s.length ≤ 100000 := by omega) : TCall env 80 [.lit (.string (st s))] S K :=
  (c_godownref07_Is_ok S s hs).mono fun t S' ⟨h1, h2⟩ => by rw [h1, h2]; exact hK
end Go.Proofs.YtoldjfappfbfbaaGreatDoor
namespace Go.Proofs.YtoldjfappfbfbaaGreatDoor
open Go.RowKit TL
theorem c_abi_NoEscape {S : TS} {t : TV} {K : TV → TS → Prop} (hK : K t S) : TCall env 223 [t] S K := by
  refine TCall.of_extern (e := Extern.AbiNoEscape.same) Tryz.func223 rfl rfl (by kernel_rfl) (by kernel_rfl) fun w0 c0 w vs hk hv => ?_
  have h0 : vs.size = 1 := hv.size
  have hlt : 0 < vs.size := by omega
  have e : vs = #[vs[0]] := by
    apply Array.ext
    · simpa using h0
    · intro i h1 h2
      have : i = 0 := by omega
      subst this
      rfl
  rw [e]
  exact ⟨vs[0], w, rfl, t, c0, S, hk, Mono.refl _ _, hv.rd 0 _ _ rfl (Array.getElem?_eq_getElem hlt), hK⟩
end Go.Proofs.YtoldjfappfbfbaaGreatDoor
namespace Go.Proofs.YtoldjfappfbfbaaGreatDoor
open Go.RowKit TL
theorem ne_len {α : Type} [DecidableEq α] {a b : List α} (h : a.length ≠ b.length) : decide (a = b) = false := decide_eq_false fun e => h (by rw [e])
theorem ne_at {α : Type} [DecidableEq α] {a b : List α} {d : α} {i : Nat} (h : a.getD i d ≠ b.getD i d) : decide (a = b) = false := decide_eq_false fun e => h (by rw [e])
theorem eq_all {α : Type} [DecidableEq α] {a b : List α} {d : α} (hl : a.length = b.length) (h : ∀ j, j < a.length → a.getD j d = b.getD j d) : decide (a = b) = true := by
  refine decide_eq_true (List.ext_getElem hl fun i h1 h2 => ?_)
  have := h i h1
  rwa [List.getD_eq_getElem?_getD, List.getD_eq_getElem?_getD, List.getElem?_eq_getElem h1, List.getElem?_eq_getElem h2] at this
set_option maxRecDepth 8000 in
set_option maxHeartbeats 1000000 in
theorem c_godownref01_Texts_ok (S : TS) (g1 g2 : Tag) (a b : List Bs) (ha : a.length ≤ 1000000) : TCall env 49 [.sl g1 1 (dT a), .sl g2 1 (dT b)] S fun r S' => r = .lit (.bool (decide (a = b))) ∧ S' = S := by
  refine TCall.of 26 [.tmp 4] Tryz.func49 rfl rfl rfl rfl (by kernel_rfl) rfl ?_
  refine TWp.sr fun K0 hK0 => ?_
  simp -implicitDefEqProofs (disch := omega) only [seval, go_sem]
  repeat (with_reducible refine ⟨by first | omega | exact Keep.push _ _ | exact KpL.push _ _, ?_⟩)
  refine hK0 _ _ ?_; try (clear hK0; clear K0)
  refine TWp.seq_k fun K1 hK1 => ?_
  refine TWp.sr fun K2 hK2 => ?_
  simp -implicitDefEqProofs (disch := omega) only [seval, go_sem]
  repeat (with_reducible refine ⟨by first | omega | exact Keep.push _ _ | exact KpL.push _ _, ?_⟩)
  refine hK2 _ _ ?_; try (clear hK2; clear K2)
  refine TWp.cond_k fun K3 hK3 => ?_
  simp -implicitDefEqProofs (disch := omega) only [seval, go_sem]
  refine hK3 _ (fun hb => ?_) (fun hb => ?_) <;> clear hK3 <;> clear K3
  · try (replace hb := of_decide_eq_true hb)
    refine TWp.sr fun K4 hK4 => ?_
    simp -implicitDefEqProofs (disch := omega) only [seval, go_sem]
    repeat (with_reducible refine ⟨by first | omega | exact Keep.push _ _ | exact KpL.push _ _, ?_⟩)
    refine hK4 _ _ ?_; try (clear hK4; clear K4)
    refine TWp.ret ⟨.inr rfl, [_], ⟨rfl, trivial⟩, ?_⟩
    exact ⟨by show TV.lit _ = _; rw [ne_len (by omega)], rfl⟩
  · try (replace hb := of_decide_eq_false hb)
    refine TWp.skip ?_
    refine hK1 _ _ ?_; try (clear hK1; clear K1)
    refine TWp.seq_k fun K5 hK5 => ?_
    refine TWp.sr fun K6 hK6 => ?_
    simp -implicitDefEqProofs (disch := omega) only [seval, go_sem]
    repeat (with_reducible refine ⟨by first | omega | exact Keep.push _ _ | exact KpL.push _ _, ?_⟩)
    refine hK6 _ _ ?_; try (clear hK6; clear K6)
    refine TWp.block ?_
    refine TWp.loop (fun n T S' => ∃ i : Nat, n + i = a.length ∧ T 0 = .sl g1 1 (dT a) ∧ T 1 = .sl g2 1 (dT b) ∧ T 5 = .lit (.int .i64 (i : Int)) ∧ (∀ j, j < i → a.getD j [] = b.getD j []) ∧ S' = S) (a.length) ?_ ?_
    · exact ⟨0, rfl, rfl, rfl, rfl, fun j hj => absurd hj (by omega), rfl⟩
    rintro n T S' ⟨i, hi, h0, h1, h5, he, hS⟩
    have hlen : a.length = b.length := by omega
    refine TWp.seq_k fun K7 hK7 => ?_
    refine TWp.sr fun K8 hK8 => ?_
    simp -implicitDefEqProofs (disch := omega) only [seval, go_sem, h0, h1, h5]
    repeat (with_reducible refine ⟨by first | omega | exact Keep.push _ _ | exact KpL.push _ _, ?_⟩)
    refine hK8 _ _ ?_; try (clear hK8; clear K8)
    refine TWp.cond_k fun K9 hK9 => ?_
    simp -implicitDefEqProofs (disch := omega) only [seval, go_sem, h0, h1, h5]
    refine hK9 _ (fun hb => ?_) (fun hb => ?_) <;> clear hK9 <;> clear K9
    · try (replace hb := of_decide_eq_true hb)
      refine TWp.skip ?_
      refine hK7 _ _ ?_; try (clear hK7; clear K7)
      refine TWp.seq_k fun K10 hK10 => ?_
      refine TWp.block ?_
      refine TWp.sd [(0, 0), (1, 0), (2, 0), (3, 0), (4, 0), (5, 0), (6, 0), (7, 0), (8, 0)] followsN (by kernel_rfl) fun K11 hK11 => ?_
      simp -implicitDefEqProofs (disch := omega) only [seval, go_sem, h0, h1, h5]
      repeat (with_reducible refine ⟨by first | omega | exact Keep.push _ _ | exact KpL.push _ _, ?_⟩)
      refine hK11 _ _ ?_; try (clear hK11; clear K11)
      refine TWp.cond_k fun K12 hK12 => ?_
      simp -implicitDefEqProofs (disch := omega) only [seval, go_sem, h0, h1, h5]
      refine hK12 _ (fun hb => ?_) (fun hb => ?_) <;> clear hK12 <;> clear K12
      · try (replace hb := of_decide_eq_true hb)
        refine TWp.sr fun K13 hK13 => ?_
        simp -implicitDefEqProofs (disch := omega) only [seval, go_sem, h0, h1, h5]
        repeat (with_reducible refine ⟨by first | omega | exact Keep.push _ _ | exact KpL.push _ _, ?_⟩)
        refine hK13 _ _ ?_; try (clear hK13; clear K13)
        refine TWp.ret ⟨.inr rfl, [_], ⟨rfl, trivial⟩, ?_⟩
        exact ⟨by show TV.lit _ = _; rw [ne_at (d := []) (i := i) hb], hS⟩
      · try (replace hb := of_decide_eq_false hb)
        refine TWp.skip ?_
        refine hK10 _ _ ?_; try (clear hK10; clear K10)
        refine TWp.rk fun K14 hK14 => ?_
        simp -implicitDefEqProofs (disch := omega) only [seval, go_sem, h0, h1, h5]
        repeat (with_reducible refine ⟨by first | omega | exact Keep.push _ _ | exact KpL.push _ _, ?_⟩)
        refine hK14 _ _ ?_; try (clear hK14; clear K14)
        exact ⟨n - 1, by omega, i + 1, by omega, h0, h1, rfl, fun j hj => by
          rcases Nat.lt_succ_iff_lt_or_eq.1 hj with h | h
          · exact he j h
          · rw [h]; exact Classical.byContradiction hb, hS⟩
    · try (replace hb := of_decide_eq_false hb)
      refine TWp.exit ?_
      refine hK5 _ _ ?_; try (clear hK5; clear K5)
      refine TWp.sr fun K15 hK15 => ?_
      simp -implicitDefEqProofs (disch := omega) only [seval, go_sem, h0, h1, h5]
      repeat (with_reducible refine ⟨by first | omega | exact Keep.push _ _ | exact KpL.push _ _, ?_⟩)
      refine hK15 _ _ ?_; try (clear hK15; clear K15)
      refine TWp.ret ⟨.inr rfl, [_], ⟨rfl, trivial⟩, ?_⟩
      exact ⟨by show TV.lit _ = _; rw [eq_all (d := []) hlen fun j hj => he j (by omega)], hS⟩
theorem c_godownref01_Texts {S : TS} {g1 g2 : Tag} {a b : List Bs} {K : TV → TS → Prop} (hK : K (.lit (.bool (decide (a = b)))) S) (ha : a.length ≤ 1000000 := by omega) : TCall env 49 [.sl g1 1 (dT a), .sl g2 1 (dT b)] S K :=
  (c_godownref01_Texts_ok S g1 g2 a b ha).mono fun t S' ⟨h1, h2⟩ => by rw [h1, h2]; exact hK
end Go.Proofs.YtoldjfappfbfbaaGreatDoor
namespace Go.Proofs.YtoldjfappfbfbaaGreatDoor.TL
open Go.RowKit
/-- What 'simp' does not look into. -/
inductive Pin {α : Type} (a : α) : Type
  | mk
def W (E : Env) (N : Nat) : Code → (Exit → (Nat → TV) → TS → Prop) → (Nat → TV) → TS → Prop
  | .skip, Q, T, S => Q .normal T S
  | .label _, Q, T, S => Q .normal T S
  | .exit id, Q, T, S => Q (.exit id) T S
  | .ret, Q, T, S => Q .ret T S
  | .seq a b, Q, T, S => W E N a (thenT (fun T S => W E N b Q T S) Q) T S
  | .cond o a b, Q, T, S => ∃ x, evO E T o = .lit (.bool x) ∧ (x = true → W E N a Q T S) ∧ (x = false → W E N b Q T S)
  | .block id c, Q, T, S => W E N c (blockT id Q) T S
  | .region _ ops true, Q, T, S => E.P.follows .mixedOrders = true ∧ ∃ l, chkD ops l = true ∧ evD E N ops l (fun T S => Q .normal T S) T S
  | .region _ ops false, Q, T, S => evL E N ops ops.toList (fun T S => Q .normal T S) T S
  | c, Q, T, S => TWp E N c Q T S
theorem W_ok {E : Env} {N : Nat} : ∀ {c : Code} {Q : Exit → (Nat → TV) → TS → Prop} {T : Nat → TV} {S : TS}, W E N c Q T S → TWp E N c Q T S
  | .skip, _, _, _, h => .skip h
  | .label _, _, _, _, h => .label h
  | .exit _, _, _, _, h => .exit h
  | .ret, _, _, _, h => .ret h
  | .seq a b, Q, T, S, h => .seq ((W_ok (c := a) h).mono fun e T' S' hq => by
      cases e with
      | normal => exact W_ok (c := b) hq
      | _ => exact hq)
  | .cond o a b, Q, T, S, h => by
      obtain ⟨x, h1, h2, h3⟩ := h
      exact .cond h1 (fun hx => W_ok (h2 hx)) (fun hx => W_ok (h3 hx))
  | .block id c, Q, T, S, h => .block (W_ok (c := c) h)
  | .region _ ops true, Q, T, S, h => by
      obtain ⟨hm, l, h1, h2⟩ := h
      exact .draw hm l h1 h2
  | .region _ ops false, Q, T, S, h => .reg h
  | .loop _, _, _, _, h => h
  | .rangeFunc .., _, _, _, h => h
  | .scope _, _, _, _, h => h
  | .goto _, _, _, _, h => h
  | .refuse _, _, _, _, h => h
section
variable {E : Env} {N : Nat}
def seqK (E : Env) (N : Nat) (b : Code) (_ : Pin b) (Q : Exit → (Nat → TV) → TS → Prop) : Exit → (Nat → TV) → TS → Prop := thenT (fun T S => W E N b Q T S) Q
def blkK (id : Nat) (Q : Exit → (Nat → TV) → TS → Prop) : Exit → (Nat → TV) → TS → Prop := blockT id Q
def nrmK (Q : Exit → (Nat → TV) → TS → Prop) : (Nat → TV) → TS → Prop := fun T S => Q .normal T S
def cdK (x : TV) (E : Env) (N : Nat) (a : Code) (_ : Pin a) (b : Code) (_ : Pin b) (Q : Exit → (Nat → TV) → TS → Prop) (T : Nat → TV) (_ : Pin T) (S : TS) : Prop := ∃ y, x = .lit (.bool y) ∧ (y = true → W E N a Q T S) ∧ (y = false → W E N b Q T S)
def drW (E : Env) (N : Nat) (ops : Array Oper) (_ : Pin ops) (K : (Nat → TV) → TS → Prop) (T : Nat → TV) (_ : Pin T) (S : TS) : Prop := E.P.follows .mixedOrders = true ∧ ∃ l, chkD ops l = true ∧ evD E N ops l K T S
def loW (E : Env) (N : Nat) (c : Code) (_ : Pin c) (Q : Exit → (Nat → TV) → TS → Prop) (T : Nat → TV) (S : TS) : Prop := TWp E N (.loop c) Q T S
abbrev nextK (I : Nat → (Nat → TV) → TS → Prop) (n : Nat) (T : Nat → TV) (S : TS) : Prop := ∃ m, m < n ∧ I m T S
def loopK (I : Nat → (Nat → TV) → TS → Prop) (n : Nat) (Q : Exit → (Nat → TV) → TS → Prop) : Exit → (Nat → TV) → TS → Prop := thenT (fun T S => nextK I n T S) Q
abbrev endR (R : TV → TS → Prop) (t : TV) (S : TS) : Prop := R t S
def endK (R : TV → TS → Prop) (S : TS) (ts : List TV) : Prop := R (tupT ts) S
def resT (E : Env) (T : Nat → TV) (S : TS) : List ResultVar → (List TV → Prop) → Prop
  | [], K => K []
  | .tmp i :: rs, K => resT E T S rs fun ts => K (T i :: ts)
  | .cell i ty :: rs, K => ∃ t, resOne E T S (.cell i ty) t ∧ resT E T S rs fun ts => K (t :: ts)
def finK (E : Env) (rs : List ResultVar) (R : TV → TS → Prop) : Exit → (Nat → TV) → TS → Prop := fun e T S => (e = .normal ∨ e = .ret) ∧ resT E T S rs (endK R S)
theorem resT_ok {T : Nat → TV} {S : TS} : ∀ {rs : List ResultVar} {K : List TV → Prop}, resT E T S rs K → ∃ ts, resAll E T S rs ts ∧ K ts
  | [], _, h => ⟨[], trivial, h⟩
  | .tmp i :: rs, K, h => by
    obtain ⟨ts, h1, h2⟩ := resT_ok (rs := rs) h
    exact ⟨T i :: ts, ⟨rfl, h1⟩, h2⟩
  | .cell i ty :: rs, K, h => by
    obtain ⟨t, h0, h⟩ := h
    obtain ⟨ts, h1, h2⟩ := resT_ok (rs := rs) h
    exact ⟨t :: ts, ⟨h0, h1⟩, h2⟩
theorem TCall.w {f : FuncId} {fn : Func} {body : Code} {args : List TV} {S : TS} {R : TV → TS → Prop} (N : Nat) (rs : List ResultVar) (hf : E.P.funcs[f]? = some fn) (hb : fn.body = some body) (hname : (fn.name == "runtime.NumGoroutine") = false)
    (hN : args.length + (fn.ntmps - args.length) = N) (hrs : fn.results.toList = rs) (hin : codeInb N body = true) (hres : rs.all (resInb N) = true)
    (h : W E N body (finK E rs R) (argsT args) S) : TCall E f args S R :=
  .of N rs hf hb hname hN hrs hin hres ((W_ok h).mono fun _ _ _ ⟨h1, h2⟩ => ⟨h1, resT_ok h2⟩)
variable {Q : Exit → (Nat → TV) → TS → Prop} {T : Nat → TV} {S : TS}
theorem W_skip : W E N .skip Q T S = Q .normal T S := rfl
theorem W_label (l : Nat) : W E N (.label l) Q T S = Q .normal T S := rfl
theorem W_exit (i : Nat) : W E N (.exit i) Q T S = Q (.exit i) T S := rfl
theorem W_ret : W E N .ret Q T S = Q .ret T S := rfl
theorem W_seq (a b : Code) : W E N (.seq a b) Q T S = W E N a (seqK E N b .mk Q) T S := rfl
theorem W_cond (o : Operand) (a b : Code) : W E N (.cond o a b) Q T S = cdK (evO E T o) E N a .mk b .mk Q T .mk S := rfl
theorem W_block (i : Nat) (c : Code) : W E N (.block i c) Q T S = W E N c (blkK i Q) T S := rfl
theorem W_draw (i : Nat) (ops : Array Oper) : W E N (.region i ops true) Q T S = drW E N ops .mk (nrmK Q) T .mk S := rfl
theorem W_region (i : Nat) (ops : Array Oper) : W E N (.region i ops false) Q T S = evL E N ops ops.toList (nrmK Q) T S := rfl
theorem W_loop (c : Code) : W E N (.loop c) Q T S = loW E N c .mk Q T S := rfl
theorem seqK_n {b : Code} {p : Pin b} : seqK E N b p Q .normal T S = W E N b Q T S := rfl
theorem seqK_r {b : Code} {p : Pin b} : seqK E N b p Q .ret T S = Q .ret T S := rfl
theorem seqK_e {b : Code} {p : Pin b} {i : Nat} : seqK E N b p Q (.exit i) T S = Q (.exit i) T S := rfl
theorem blkK_n {j : Nat} : blkK j Q .normal T S = Q .normal T S := rfl
theorem blkK_r {j : Nat} : blkK j Q .ret T S = Q .ret T S := rfl
theorem blkK_e {i j : Nat} : blkK j Q (.exit i) T S = if i = j then Q .normal T S else Q (.exit i) T S := rfl
theorem nrmK_app : nrmK Q T S = Q .normal T S := rfl
theorem loopK_n {I : Nat → (Nat → TV) → TS → Prop} {n : Nat} : loopK I n Q .normal T S = nextK I n T S := rfl
theorem loopK_r {I : Nat → (Nat → TV) → TS → Prop} {n : Nat} : loopK I n Q .ret T S = Q .ret T S := rfl
theorem loopK_e {I : Nat → (Nat → TV) → TS → Prop} {n i : Nat} : loopK I n Q (.exit i) T S = Q (.exit i) T S := rfl
theorem finK_n {rs : List ResultVar} {R : TV → TS → Prop} : finK E rs R .normal T S = resT E T S rs (endK R S) := by simp [finK]
theorem finK_r {rs : List ResultVar} {R : TV → TS → Prop} : finK E rs R .ret T S = resT E T S rs (endK R S) := by simp [finK]
theorem resT_nil {K : List TV → Prop} : resT E T S [] K = K [] := rfl
theorem resT_tmp {i : Nat} {rs : List ResultVar} {K : List TV → Prop} : resT E T S (.tmp i :: rs) K = resT E T S rs fun ts => K (T i :: ts) := rfl
theorem resT_cell {i : Nat} {ty : TypeId} {rs : List ResultVar} {K : List TV → Prop} : resT E T S (.cell i ty :: rs) K = ∃ t, resOne E T S (.cell i ty) t ∧ resT E T S rs fun ts => K (t :: ts) := rfl
theorem endK_1 {R : TV → TS → Prop} {t : TV} : endK R S [t] = endR R t S := rfl
theorem endK_0 {R : TV → TS → Prop} : endK R S [] = endR R (.tup []) S := rfl
theorem endK_2 {R : TV → TS → Prop} {t u : TV} {ts : List TV} : endK R S (t :: u :: ts) = endR R (.tup (t :: u :: ts)) S := rfl
section
variable {a b : Code} {pa : Pin a} {pb : Pin b} {pT : Pin T}
theorem cdK_t : cdK (.lit (.bool true)) E N a pa b pb Q T pT S = W E N a Q T S := by
  unfold cdK
  refine propext ⟨fun ⟨y, h1, h2, h3⟩ => ?_, fun h => ⟨true, rfl, (fun _ => h), (fun h => by cases h)⟩⟩
  injection h1 with h1; injection h1 with h1; exact h2 h1.symm
theorem cdK_f : cdK (.lit (.bool false)) E N a pa b pb Q T pT S = W E N b Q T S := by
  unfold cdK
  refine propext ⟨fun ⟨y, h1, h2, h3⟩ => ?_, fun h => ⟨false, rfl, (fun h => by cases h), fun _ => h⟩⟩
  injection h1 with h1; injection h1 with h1; exact h3 h1.symm
theorem cdK_d {p : Prop} {hd : Decidable p} (ht : p → W E N a Q T S) (hf : ¬ p → W E N b Q T S) : cdK (.lit (.bool (@decide p hd))) E N a pa b pb Q T pT S := ⟨_, rfl, fun h => ht (of_decide_eq_true h), fun h => hf (of_decide_eq_false h)⟩
end
theorem drW_at {ops : Array Oper} {p : Pin ops} {pT : Pin T} {K : (Nat → TV) → TS → Prop} (l : List Ent2) (hm : E.P.follows .mixedOrders = true) (hc : chkD ops l = true) (h : evD E N ops l K T S) : drW E N ops p K T pT S := ⟨hm, l, hc, h⟩
theorem loW_inv {c : Code} {p : Pin c} (I : Nat → (Nat → TV) → TS → Prop) (n : Nat) (h0 : I n T S) (round : ∀ n T S, I n T S → W E N c (loopK I n Q) T S) : loW E N c p Q T S :=
  .loop I n h0 fun n T S h => (W_ok (round n T S h)).mono fun e _ _ hq => by cases e <;> exact hq
def idQ : Nat → Nat → List Ent2
  | 0, _ => []
  | n + 1, i => (i, 0) :: idQ n (i + 1)
/-- A side condition that 'omega' shows. -/
theorem and_side {p q : Prop} (h : p) : (p ∧ q) = q := propext ⟨fun h => h.2, fun h' => ⟨h, h'⟩⟩
theorem dec_t {p : Prop} {hd : Decidable p} (h : p) : @decide p hd = true := decide_eq_true h
theorem dec_f {p : Prop} {hd : Decidable p} (h : ¬ p) : @decide p hd = false := decide_eq_false h
end
theorem tvBin_pp (P : Program) (op : BinOp) (ty : TypeId) (a b : Option Addr) : tvBin P op ty (.pointer a) (.pointer b) = none := rfl
theorem tvBin_mm (P : Program) (op : BinOp) (ty : TypeId) (a b : Option Nat) : tvBin P op ty (.map a) (.map b) = none := rfl
def bbT (d : Option TypeDesc) (op : BinOp) (a b : Bool) : Option Value :=
  match d, op with
  | some .bool, .eql => some (.bool (decide (a = b)))
  | some .bool, .neq => some (.bool (decide (a ≠ b)))
  | _, _ => none
theorem tvBin_bb (P : Program) (op : BinOp) (ty : TypeId) (a b : Bool) : tvBin P op ty (.bool a) (.bool b) = bbT (P.underlying ty) op a b := by
  change (match P.underlying ty, op with | some .bool, .eql => some (Value.bool (a == b)) | some .bool, .neq => some (.bool !(a == b)) | _, _ => none) = bbT (P.underlying ty) op a b
  generalize P.underlying ty = d
  unfold bbT
  cases a <;> cases b <;> rfl
theorem bbT_e (a b : Bool) : bbT (some .bool) .eql a b = some (.bool (decide (a = b))) := rfl
theorem bbT_n (a b : Bool) : bbT (some .bool) .neq a b = some (.bool (decide (a ≠ b))) := rfl
attribute [go_sem] tvBin_bb bbT_e bbT_n
attribute [go_sem] tvBin_pp tvBin_mm ptrEq nilB isEq not_false_eq_true
/-- All but some objects are as they were. -/
structure Fr (S S' : TS) (L : List Nat) : Prop where
  n : S.n ≤ S'.n
  o : ∀ id, id < S.n → id ∉ L → S'.objs id = S.objs id
theorem Fr.refl (S : TS) (L : List Nat) : Fr S S L := ⟨Nat.le_refl _, fun _ _ _ => rfl⟩
theorem Fr.push {S S' : TS} {L : List Nat} (h : Fr S S' L) (o : TObj) : Fr S (S'.push o) L :=
  ⟨Nat.le_succ_of_le h.n, fun id hi hl => by rw [TS.push_objs, if_neg (by have := h.n; omega)]; exact h.o id hi hl⟩
theorem Fr.set {S S' : TS} {L : List Nat} (h : Fr S S' L) {id : Nat} (hid : id ∈ L ∨ S.n ≤ id) (o : TObj) : Fr S (S'.set id o) L :=
  ⟨h.n, fun j hj hl => by rw [TS.set_objs, if_neg (fun e => by subst e; rcases hid with h | h; exact hl h; omega)]; exact h.o j hj hl⟩
theorem Fr.trans {S S1 S2 : TS} {L L' : List Nat} (h : Fr S S1 L) (k : Fr S1 S2 L') (hl : ∀ x ∈ L', x ∈ L ∨ S.n ≤ x) : Fr S S2 L :=
  ⟨Nat.le_trans h.n k.n, fun id hi hx => (k.o id (Nat.lt_of_lt_of_le hi h.n) fun hm => by rcases hl id hm with h | h; exact hx h; omega).trans (h.o id hi hx)⟩
theorem Fr.keep {S S' : TS} (h : Fr S S' []) : Keep S S' := ⟨h.n, fun id hi => h.o id hi (by simp)⟩
theorem Fr.of {S S' : TS} (h : Keep S S') (L : List Nat) : Fr S S' L := ⟨h.1, fun id hi _ => h.2 id hi⟩
section
variable {E : Env} {N : Nat} {Q : Exit → (Nat → TV) → TS → Prop} {T : Nat → TV} {S : TS}
theorem loW.asRow (i : Nat) {s : Nat} (s' : Nat) {xs : List D} {c : Code} {p : Pin c} (h : T i = .sl .full s xs) (hs : xs = [] ∨ s' = s) (hw : loW E N c p Q (upd T i (.sl (.own S.n) s' xs)) (S.push .lin)) : loW E N c p Q T S := TWp.asRow i s' h hs hw
theorem loW.asBuf (i e : Nat) {s : Nat} (s' : Nat) {c : Code} {p : Pin c} (h : T i = .sl .full s []) (hw : loW E N c p Q (upd T i (.vs S.n 0 s' 0)) (S.push (.cells e []))) : loW E N c p Q T S := TWp.asBuf i e s' h hw
/-- An object's cells read in another way. -/
theorem Rel.reread {w0 : World} {c : Cx} {w : World} (h : Rel w0 c S w) {id e : Nat} {cs cs' : List TV} (hobj : S.objs id = .cells e cs) (hl : cs'.length = cs.length)
    (hr : ∀ (j : Nat) x x' v, cs[j]? = some x → cs'[j]? = some x' → RdT c w x v → RdT c w x' v) : Rel w0 c (S.set id (.cells e cs')) w := by
  refine ⟨h.below, h.dom, fun i hi => ?_, fun i j b e1 e2 hi hj li lj gi gj => ?_, h.cell, fun i hi => ?_, h.cn⟩
  · rw [TS.set_objs]
    split
    · rename_i hii
      subst hii
      have ho := h.obj i hi
      rw [hobj] at ho
      refine ⟨fun hn => List.eq_nil_of_length_eq_zero (by rw [hl, ho.1 hn]; rfl), fun b z hz => ?_⟩
      obtain ⟨g2, ⟨arr, fr, g3, gz, gl⟩, gf, g4, g5⟩ := ho.2 b z hz
      refine ⟨g2, ⟨arr, fr, g3, gz, by rw [hl]; exact gl⟩, gf, fun j x' hx' => ?_, g5⟩
      have hj : j < cs.length := by rw [← hl]; exact (List.getElem?_eq_some_iff.1 hx').1
      obtain ⟨v, k1, k3⟩ := g4 j _ (List.getElem?_eq_getElem hj)
      exact ⟨v, k1, hr j _ _ v (List.getElem?_eq_getElem hj) hx' k3⟩
    · exact h.obj i hi
  · have key : ∀ k, ((S.set id (.cells e cs')).objs k).live = true → (S.objs k).live = true := by
      intro k hk
      rw [TS.set_objs] at hk
      split at hk
      · rename_i hki; rw [hki, hobj]; rfl
      · exact hk
    exact h.inj i j b e1 e2 hi hj (key i li) (key j lj) gi gj
  · rw [TS.set_objs, if_neg]
    · exact h.wf i hi
    · intro he
      subst he
      have := h.wf i hi
      rw [hobj] at this; cases this
/-- An empty slice in an object's cell: a row that may be written. -/
theorem Rel.bufCell {w0 : World} {c : Cx} {w : World} (h : Rel w0 c S w) {id e s : Nat} {cs : List TV} (e2 s' j : Nat) (hobj : S.objs id = .cells e cs) (hj : cs[j]? = some (.sl .full s [])) :
    ∃ c', Rel w0 c' ((S.push (.cells e2 [])).set id (.cells e (cs.set j (.vs S.n 0 s' 0)))) w ∧ Mono c w c' w := by
  obtain ⟨c', h1, h2, h3, h4⟩ := h.virtual' (.cells e2 []) (.inr ⟨e2, rfl⟩)
  have hid : id < S.n := h.live_lt (by rw [hobj]; rfl)
  refine ⟨c', h1.reread (by rw [TS.push_objs, if_neg (by omega)]; exact hobj) (by simp) fun q x x' v hx hx' hv => ?_, h2⟩
  rw [List.getElem?_set] at hx'
  split at hx'
  · rename_i hjq
    subst hjq
    rw [hj] at hx
    cases hx
    split at hx'
    · cases hx'
      cases hv with
      | sl _ _ _ _ q1 q2 =>
        have hlt : S.n < c'.n := by omega
        cases q1 with
        | nil _ a cap => obtain rfl : cap = 0 := q2; exact .vsN _ _ _ _ hlt
        | sl _ _ b o n cap hn hc hm _ =>
          have hn : 0 = n := hn
          subst hn
          obtain rfl : cap = 0 := q2
          exact .vsN _ _ _ _ hlt
    · cases hx'
  · rw [hx] at hx'; cases hx'; exact hv
/-- .. or an own row that may be appended to. -/
theorem Rel.rowCell {w0 : World} {c : Cx} {w : World} (h : Rel w0 c S w) {id e s : Nat} {cs : List TV} (s' j : Nat) (hobj : S.objs id = .cells e cs) (hj : cs[j]? = some (.sl .full s [])) :
    ∃ c', Rel w0 c' ((S.push .lin).set id (.cells e (cs.set j (.sl (.own S.n) s' [])))) w ∧ Mono c w c' w := by
  obtain ⟨c', h1, h2, h3⟩ := h.virtual
  have hid : id < S.n := h.live_lt (by rw [hobj]; rfl)
  refine ⟨c', h1.reread (by rw [TS.push_objs, if_neg (by omega)]; exact hobj) (by simp) fun q x x' v hx hx' hv => ?_, h2⟩
  rw [List.getElem?_set] at hx'
  split at hx'
  · rename_i hjq
    subst hjq
    rw [hj] at hx
    cases hx
    split at hx'
    · cases hx'
      cases hv with
      | sl _ _ _ _ q1 q2 =>
        have hlt : S.n < c'.n := by rw [h1.cn, TS.push_n]; omega
        refine .sl _ _ _ _ (q1.nil_any s') ?_
        cases v with
        | slice a n cap => exact ⟨hlt, .inl q2⟩
        | _ => exact q2
    · cases hx'
  · rw [hx] at hx'; cases hx'; exact hv
theorem loW.ghost {S' : TS} {c : Code} {p : Pin c} (h : ∀ w0 c w, Ok E w0 c S w → ∃ c', Rel w0 c' S' w ∧ Mono c w c' w) (hw : loW E N c p Q T S') : loW E N c p Q T S :=
  TWp.ghost (fun w0 c w hk => let ⟨c', h1, h2⟩ := h w0 c w hk; ⟨c', h1, h2, fun _ _ hv => hv.step h2⟩) hw
theorem TCall.ghost {f : FuncId} {args : List TV} {S' : TS} {R : TV → TS → Prop} (h : ∀ w0 c w, Ok E w0 c S w → ∃ c', Rel w0 c' S' w ∧ Mono c w c' w) (hw : TCall E f args S' R) : TCall E f args S R := by
  intro w0 c w vs hk hv
  obtain ⟨c', h1, h2⟩ := h w0 c w hk
  exact (hw w0 c' w vs (hk.step h1 h2) ⟨hv.size, fun j t v a b => (hv.rd j t v a b).step h2⟩).mono fun v w' ⟨t, c2, S2, g1, g2, g3, g4⟩ => ⟨t, c2, S2, g1, h2.trans g2, g3, g4⟩
/-- A call's own row, or nothing: a row. -/
theorem TCall.rowE {f : FuncId} {args : List TV} {S : TS} {s : Nat} {xs : List D} (h : TCall E f args S fun t S' => ((∃ k, t = .sl (.own k) s xs ∧ S.n ≤ k ∧ S'.objs k = .lin) ∨ (xs = [] ∧ ∃ s0, t = .sl .full s0 [])) ∧ Keep S S') : TCall E f args S fun t S' => t = .sl (.own S.n) s xs ∧ S' = S.push .lin := by
  intro w0 c w vs hk hv
  refine (h w0 c w vs hk hv).mono ?_
  rintro v w' ⟨t, c1, S1, h1, h2, h3, h4, h5⟩
  rcases h4 with ⟨k, rfl, hk2, ho⟩ | ⟨rfl, s0, rfl⟩
  · obtain ⟨g1, g2⟩ := hk.forget h1 h2 (.row hk.rel.wf h5 hk2 ho)
    exact ⟨_, _, _, g1, g2, (Ren.sl 0 k s xs rfl).ok (newCx_ok _ _ _) h3, rfl, rfl⟩
  · obtain ⟨g1, g2⟩ := hk.forget h1 h2 (.none hk.rel.wf h5)
    obtain ⟨c', r1, r2, r3⟩ := g1.rel.virtual
    refine ⟨_, c', _, g1.step r1 r2, g2.trans r2, ?_, rfl, rfl⟩
    have h6 := (Ren.sl0 (n := S.n) (L := []) .full s0 [] (.inr (.inl rfl))).ok (newCx_ok _ _ _) h3
    cases h6 with
    | sl _ _ _ _ q1 q2 =>
      refine .sl _ _ _ _ ((q1.nil_any s).step r2) ?_
      cases v with
      | slice a n cap => exact ⟨by rw [r1.cn, TS.push_n]; omega, .inl q2⟩
      | _ => exact q2
end
attribute [go_sem ↓] W_skip W_label W_exit W_ret W_seq W_cond W_block W_draw W_region W_loop seqK_n seqK_r seqK_e blkK_n blkK_r blkK_e nrmK_app loopK_n loopK_r loopK_e finK_n finK_r resT_nil resT_tmp resT_cell endK_0 endK_1 endK_2 idQ
attribute [go_sem] cdK_t cdK_f and_side dec_t dec_f
end Go.Proofs.YtoldjfappfbfbaaGreatDoor.TL
namespace Go.Proofs.YtoldjfappfbfbaaGreatDoor.TL
open Go.RowKit Go.MapKept
/-- A kind of keys: how they stand in a map. -/
structure KK (α : Type) where
  v : α → Value
  d : TypeDesc
  key : ∀ a, isKeyB d (v a) = true
  eq : ∀ a b, keyEq (v a) (v b) = true ↔ a = b
def kS : KK Bs := ⟨fun s => .string (st s), .string, fun _ => rfl, fun a b => by
  show (st a == st b) = true ↔ a = b
  rw [← st_inj (a := a)]
  exact ⟨fun h => by simpa [bytes_beq] using h, fun h => by rw [h]; simp [bytes_beq]⟩⟩
def kI : KK Int := ⟨fun n => .int .i64 n, .int .i64, fun _ => rfl, fun a b => by
  show (a == b) = true ↔ a = b
  exact beq_iff_eq⟩
section
variable {α : Type} (κ : KK α)
/-- What a map holds at a key. -/
def getM (es : Ents) (a : α) : Option TV := (findT (κ.v a) es).map (valAt es)
/-- A map whose keys are such, each once. -/
structure MapOk (es : Ents) (clock : Nat) (l : List α) : Prop where
  keys : es.map (·.1) = l.map κ.v
  nd : l.Nodup
  born : ∀ e ∈ es, e.2.1 < clock
  bnd : (es.map (·.2.1)).Nodup
theorem getM_nil (a : α) : getM κ [] a = none := rfl
theorem look_get (es : Ents) (a : α) (z : TV) : lookT (κ.v a) es z = (getM κ es a).getD z := by
  unfold lookT getM
  cases findT (κ.v a) es <;> rfl
theorem found_get (es : Ents) (a : α) : (findT (κ.v a) es).isSome = (getM κ es a).isSome := by
  unfold getM
  cases findT (κ.v a) es <;> rfl
theorem findT_some {es : Ents} {k : Value} {j : Nat} : findT k es = some j ↔ ∃ h : j < es.length, keyEq k es[j].1 = true ∧ ∀ i, (hi : i < j) → keyEq k (es[i]'(by omega)).1 = false := by
  unfold findT
  rw [List.findIdx?_eq_some_iff_getElem]
  constructor
  · rintro ⟨h1, h2, h3⟩
    exact ⟨h1, h2, fun i hi => by have := h3 i hi; simpa using this⟩
  · rintro ⟨h1, h2, h3⟩
    exact ⟨h1, h2, fun i hi => by have := h3 i hi; simpa using this⟩
variable {κ} {es : Ents} {clock : Nat} {l : List α}
theorem MapOk.len (h : MapOk κ es clock l) : es.length = l.length := by have := congrArg List.length h.keys; simpa using this
theorem MapOk.ok (h : MapOk κ es clock l) : keysOk κ.d es = true := by
  unfold keysOk
  rw [List.all_eq_true]
  intro e he
  have : e.1 ∈ l.map κ.v := by rw [← h.keys]; exact List.mem_map.2 ⟨e, he, rfl⟩
  obtain ⟨a, _, ha⟩ := List.mem_map.1 this
  rw [← ha]; exact κ.key a
theorem MapOk.at_ (h : MapOk κ es clock l) {j : Nat} (hj : j < es.length) : es[j].1 = κ.v (l[j]'(by rw [← h.len]; exact hj)) := by
  have h1 : (es.map (·.1))[j]? = (l.map κ.v)[j]? := by rw [h.keys]
  rw [List.getElem?_map, List.getElem?_map, List.getElem?_eq_getElem hj, List.getElem?_eq_getElem (by rw [← h.len]; exact hj)] at h1
  simpa using h1
theorem MapOk.find (h : MapOk κ es clock l) {a : α} {j : Nat} : findT (κ.v a) es = some j ↔ l[j]? = some a := by
  rw [findT_some]
  constructor
  · rintro ⟨h1, h2, _⟩
    rw [h.at_ h1, κ.eq] at h2
    rw [List.getElem?_eq_getElem (by rw [← h.len]; exact h1), h2]
  · intro hj
    obtain ⟨h1, h2⟩ := List.getElem?_eq_some_iff.1 hj
    have hl : j < es.length := by rw [h.len]; exact h1
    refine ⟨hl, by rw [h.at_ hl, h2]; exact (κ.eq a a).2 rfl, fun i hi => ?_⟩
    cases hk : keyEq (κ.v a) (es[i]'(by omega)).1 with
    | false => rfl
    | true =>
      rw [h.at_ (by omega), κ.eq] at hk
      have := (List.getElem_inj (h₀ := by omega) (h₁ := h1) h.nd).1 (hk.symm.trans h2.symm)
      omega
theorem MapOk.mem (h : MapOk κ es clock l) (a : α) : (getM κ es a).isSome = true ↔ a ∈ l := by
  unfold getM
  rw [Option.isSome_map, List.mem_iff_getElem?]
  constructor
  · intro hh
    obtain ⟨j, hj⟩ := Option.isSome_iff_exists.1 hh
    exact ⟨j, h.find.1 hj⟩
  · rintro ⟨j, hj⟩
    rw [h.find.2 hj]; rfl
theorem MapOk.nil : MapOk κ [] 0 [] := ⟨rfl, List.nodup_nil, (fun e h => by cases h), List.nodup_nil⟩
theorem MapOk.no (h : MapOk κ es clock l) {a : α} (ha : a ∉ l) : findT (κ.v a) es = none := by
  cases hf : findT (κ.v a) es with
  | none => rfl
  | some j => exact absurd (List.mem_of_getElem? (h.find.1 hf)) ha
/-- A key is put. -/
theorem MapOk.put_old (h : MapOk κ es clock l) {a : α} (ha : a ∈ l) (t : TV) : MapOk κ (putE (κ.v a) t es clock) (clkE (κ.v a) es clock) l := by
  obtain ⟨j, hj⟩ := List.mem_iff_getElem?.1 ha
  have hf := h.find.2 hj
  have hjl : j < es.length := findT_lt hf
  unfold putE clkE
  rw [hf]
  have hk : (es.modify j fun e => (κ.v a, e.2.1, t)).map (·.1) = es.map (·.1) := by
    apply List.ext_getElem?
    intro i
    rw [List.getElem?_map, List.getElem?_map, List.getElem?_modify]
    by_cases hij : j = i
    · subst hij
      rw [List.getElem?_eq_getElem hjl]
      have := h.at_ hjl
      obtain ⟨h1, h2⟩ := List.getElem?_eq_some_iff.1 hj
      simp [this, h2]
    · simp [hij]
  have hb : (es.modify j fun e => (κ.v a, e.2.1, t)).map (·.2.1) = es.map (·.2.1) := by
    apply List.ext_getElem?
    intro i
    rw [List.getElem?_map, List.getElem?_map, List.getElem?_modify]
    by_cases hij : j = i
    · subst hij; rw [List.getElem?_eq_getElem hjl]; simp
    · simp [hij]
  refine ⟨hk.trans h.keys, h.nd, fun e he => ?_, by rw [hb]; exact h.bnd⟩
  have : e.2.1 ∈ (es.modify j fun e => (κ.v a, e.2.1, t)).map (·.2.1) := List.mem_map.2 ⟨e, he, rfl⟩
  rw [hb] at this
  obtain ⟨e', he', hee⟩ := List.mem_map.1 this
  rw [← hee]; exact h.born e' he'
theorem MapOk.put_new (h : MapOk κ es clock l) {a : α} (ha : a ∉ l) (t : TV) : MapOk κ (putE (κ.v a) t es clock) (clkE (κ.v a) es clock) (l ++ [a]) := by
  unfold putE clkE
  rw [h.no ha]
  refine ⟨by simp [h.keys], by rw [List.nodup_append]; exact ⟨h.nd, by simp, fun x hx y hy => by simp at hy; subst hy; exact fun e => ha (by rw [← e]; exact hx)⟩, fun e he => ?_, ?_⟩
  · rcases List.mem_append.1 he with he | he
    · have := h.born e he; show e.2.1 < clock + 1; omega
    · simp at he; subst he; exact Nat.lt_succ_self _
  · show ((es ++ [(κ.v a, clock, t)]).map (·.2.1)).Nodup
    rw [List.map_append, List.nodup_append]
    refine ⟨h.bnd, by simp, fun x hx y hy => ?_⟩
    obtain ⟨e, he, rfl⟩ := List.mem_map.1 hx
    simp at hy; subst hy
    have := h.born e he
    omega
theorem MapOk.put (h : MapOk κ es clock l) [DecidableEq α] (a : α) (t : TV) : MapOk κ (putE (κ.v a) t es clock) (clkE (κ.v a) es clock) (if a ∈ l then l else l ++ [a]) := by
  split
  · rename_i ha; exact h.put_old ha t
  · rename_i ha; exact h.put_new ha t
theorem MapOk.get_put (h : MapOk κ es clock l) [DecidableEq α] (a b : α) (t : TV) : getM κ (putE (κ.v a) t es clock) b = if b = a then some t else getM κ es b := by
  unfold getM
  by_cases ha : a ∈ l
  · have hp := h.put_old ha t
    obtain ⟨j, hj⟩ := List.mem_iff_getElem?.1 ha
    have hf := h.find.2 hj
    have hjl : j < es.length := findT_lt hf
    have hval : ∀ i, i < es.length → valAt (putE (κ.v a) t es clock) i = if i = j then t else valAt es i := by
      intro i hi
      unfold putE valAt
      rw [hf]
      simp only [List.getElem?_modify]
      by_cases hij : j = i
      · subst hij; simp [List.getElem?_eq_getElem hjl]
      · have : ¬ i = j := fun e => hij e.symm
        simp [hij, this]
    cases hb : findT (κ.v b) es with
    | none =>
      have hbn : b ∉ l := fun hm => by
        obtain ⟨i, hi⟩ := List.mem_iff_getElem?.1 hm
        rw [h.find.2 hi] at hb; cases hb
      rw [hp.no hbn, if_neg (fun e => hbn (by rw [e]; exact ha))]; rfl
    | some i =>
      have hi := h.find.1 hb
      rw [hp.find.2 hi]
      simp only [Option.map_some]
      rw [hval i (findT_lt hb)]
      have h1 := (List.getElem?_eq_some_iff.1 hi)
      have h2 := (List.getElem?_eq_some_iff.1 hj)
      by_cases hba : b = a
      · subst hba
        have : i = j := (List.getElem_inj (h₀ := h1.1) (h₁ := h2.1) h.nd).1 (h1.2.trans h2.2.symm)
        rw [if_pos this, if_pos rfl]
      · rw [if_neg (fun e => hba (by subst e; rw [← h1.2, ← h2.2])), if_neg hba]
  · have hp := h.put_new ha t
    have hpe : putE (κ.v a) t es clock = es ++ [(κ.v a, clock, t)] := by unfold putE; rw [h.no ha]
    by_cases hba : b = a
    · subst hba
      have : findT (κ.v b) (putE (κ.v b) t es clock) = some l.length := hp.find.2 (by simp)
      rw [this, if_pos rfl, hpe]
      simp [valAt, ← h.len]
    · rw [if_neg hba]
      cases hb : findT (κ.v b) es with
      | none =>
        have hbn : b ∉ l := fun hm => by
          obtain ⟨i, hi⟩ := List.mem_iff_getElem?.1 hm
          rw [h.find.2 hi] at hb; cases hb
        rw [hp.no (by simp [hbn, hba])]; rfl
      | some i =>
        have hi := h.find.1 hb
        have hil : i < es.length := findT_lt hb
        rw [hp.find.2 (by rw [List.getElem?_append_left (by rw [← h.len]; exact hil)]; exact hi), hpe]
        simp [valAt, List.getElem?_append_left hil]
theorem map_erase {β γ : Type} (f : β → γ) (l : List β) (j : Nat) : (l.eraseIdx j).map f = (l.map f).eraseIdx j := by
  apply List.ext_getElem?
  intro i
  rw [List.getElem?_map, List.getElem?_eraseIdx, List.getElem?_eraseIdx]
  split <;> rw [List.getElem?_map]
/-- A key goes. -/
def delE (k : Value) (es : Ents) : Ents := match findT k es with | some j => es.eraseIdx j | none => es
theorem MapOk.del (h : MapOk κ es clock l) [DecidableEq α] (a : α) : MapOk κ (delE (κ.v a) es) clock (l.erase a) := by
  unfold delE
  cases hf : findT (κ.v a) es with
  | none =>
    have han : a ∉ l := fun hm => by
      obtain ⟨i, hi⟩ := List.mem_iff_getElem?.1 hm
      rw [h.find.2 hi] at hf; cases hf
    rw [List.erase_of_not_mem han]; exact h
  | some j =>
    have hj := h.find.1 hf
    have hj' := List.getElem?_eq_some_iff.1 hj
    have he : l.erase a = l.eraseIdx j := by
      rw [List.erase_eq_eraseIdx]
      have : l.idxOf? a = some j := by
        unfold List.idxOf?
        rw [List.findIdx?_eq_some_iff_getElem]
        obtain ⟨q1, q2⟩ := hj'
        refine ⟨q1, by simp [q2], fun i hi => ?_⟩
        have hj' : ∃ h : j < l.length, l[j] = a := ⟨q1, q2⟩
        have : l[i]'(by omega) ≠ a := fun e => by
          have := (List.getElem_inj (h₀ := by omega) (h₁ := q1) h.nd).1 (e.trans q2.symm)
          omega
        simpa using this
      rw [this]
    rw [he]
    refine ⟨by rw [map_erase, map_erase, h.keys], h.nd.sublist (List.eraseIdx_sublist _ _), fun e hm => h.born e ((List.eraseIdx_sublist _ _).subset hm), ?_⟩
    rw [map_erase]
    exact h.bnd.sublist (List.eraseIdx_sublist _ _)
theorem MapOk.get_del (h : MapOk κ es clock l) [DecidableEq α] (a b : α) : getM κ (delE (κ.v a) es) b = if b = a then none else getM κ es b := by
  have hd := h.del a
  by_cases hba : b = a
  · subst hba
    rw [if_pos rfl]
    unfold getM
    rw [hd.no (fun hm => (List.Nodup.mem_erase_iff h.nd).1 hm |>.1 rfl)]; rfl
  · rw [if_neg hba]
    unfold getM
    cases hb : findT (κ.v b) es with
    | none =>
      have hbn : b ∉ l := fun hm => by
        obtain ⟨i, hi⟩ := List.mem_iff_getElem?.1 hm
        rw [h.find.2 hi] at hb; cases hb
      rw [hd.no (fun hm => hbn (List.mem_of_mem_erase hm))]; rfl
    | some i =>
      have hi := h.find.1 hb
      have hil := findT_lt hb
      cases hf : findT (κ.v a) es with
      | none =>
        have : delE (κ.v a) es = es := by unfold delE; rw [hf]
        rw [this, hb]
      | some j =>
        have hde : delE (κ.v a) es = es.eraseIdx j := by unfold delE; rw [hf]
        have hm : b ∈ l.erase a := (List.Nodup.mem_erase_iff h.nd).2 ⟨hba, List.mem_of_getElem? hi⟩
        obtain ⟨i', hi'⟩ := List.mem_iff_getElem?.1 hm
        rw [hd.find.2 hi']
        simp only [Option.map_some, Option.some.injEq]
        have hkd : (delE (κ.v a) es)[i']? = es[if i' < j then i' else i' + 1]? := by
          rw [hde, List.getElem?_eraseIdx]
          split <;> rfl
        have hkk : l[if i' < j then i' else i' + 1]? = some b := by
          have h3 := hd.keys
          have h4 : ((delE (κ.v a) es).map (·.1))[i']? = some (κ.v b) := by rw [h3, List.getElem?_map, hi']; rfl
          rw [List.getElem?_map, hkd, ← List.getElem?_map, h.keys, List.getElem?_map] at h4
          obtain ⟨x, hx, hxb⟩ := Option.map_eq_some_iff.1 h4
          rw [hx]
          have : keyEq (κ.v x) (κ.v b) = true := by rw [hxb]; exact (κ.eq b b).2 rfl
          rw [(κ.eq x b).1 this]
        have h5 := List.getElem?_eq_some_iff.1 hkk
        have h6 := List.getElem?_eq_some_iff.1 hi
        have : (if i' < j then i' else i' + 1) = i := (List.getElem_inj (h₀ := h5.1) (h₁ := h6.1) h.nd).1 (h5.2.trans h6.2.symm)
        unfold valAt
        rw [hkd, this]
end
end Go.Proofs.YtoldjfappfbfbaaGreatDoor.TL
namespace Go.Proofs.YtoldjfappfbfbaaGreatDoor.TL
open Go.RowKit Go.Sort
/-- New blocks behind the others. -/
theorem Rel.grow {w0 : World} {c : Cx} {S : TS} {w : World} (h : Rel w0 c S w) (os : Array Obj) : Rel w0 c S (Sort.grow w os) ∧ Mono c w c (Sort.grow w os) := by
  have hA : ∀ b o, c.A b o → (Sort.grow w os).cell? ⟨b, o, none⟩ = w.cell? ⟨b, o, none⟩ := fun b o ha => cell?_grow w os _ (h.alt ha)
  have m : Mono c w c (Sort.grow w os) := ⟨fun _ _ h => h, hA, fun _ _ h => h, Nat.le_refl _⟩
  refine ⟨⟨h.below.trans ⟨rfl, rfl, rfl, by simp, fun k hk => heap_grow_old w os (Nat.lt_of_lt_of_le hk h.le)⟩, h.dom, fun id hid => (h.obj id hid).keep m rfl (fun hl b e hb => ⟨heap_grow_old w os (h.fresh hb hl), fun _ h => h⟩), h.inj, fun b o ha => ?_, h.wf, h.cn⟩, m⟩
  obtain ⟨v, hv⟩ := h.cell b o ha
  exact ⟨v, (hA b o ha).trans hv⟩
theorem Rel.ahead {w0 : World} {c : Cx} {S : TS} {w : World} (h : Rel w0 c S w) (n : Nat) : Rel w0 c S (Sort.ahead w n) ∧ Mono c w c (Sort.ahead w n) := by
  have m : Mono c w c (Sort.ahead w n) := ⟨fun _ _ h => h, fun _ _ _ => rfl, fun _ _ h => h, Nat.le_refl _⟩
  exact ⟨⟨h.below.trans ⟨rfl, rfl, rfl, Nat.le_refl _, fun _ _ => rfl⟩, h.dom, fun id hid => (h.obj id hid).keep m rfl (fun _ b e _ => ⟨rfl, fun _ h => h⟩), h.inj, h.cell, h.wf, h.cn⟩, m⟩
def litC {α : Type} (enc : α → Value) (d : List α) : List TV := d.map fun x => .lit (enc x)
theorem putCells_get {α : Type} [Inhabited α] (enc : α → Value) (d : List α) (c : Array Value) (hc : d.length ≤ c.size) (j : Nat) (x : α) (hj : d[j]? = some x) : (putCells enc 0 d.toArray c)[j]? = some (enc x) := by
  have hlt : j < d.length := (List.getElem?_eq_some_iff.1 hj).1
  simp only [putCells, Array.getElem?_mapIdx, Array.getElem?_eq_getElem (show j < c.size by omega), Option.map_some, Nat.zero_le, true_and, Nat.zero_add, List.size_toArray, hlt, if_true, Nat.sub_zero]
  congr 2
  simp [hlt]
  rw [List.getElem?_eq_getElem hlt] at hj
  injection hj with hj
/-- A row is written over. -/
theorem Rel.putRow {α : Type} [Inhabited α] {w0 : World} {c : Cx} {S : TS} {w : World} (h : Rel w0 c S w) {id e b : Nat} {z : Nat × Nat} (enc : α → Value) (d d' : List α) (hobj : S.objs id = .cells e (litC enc d)) (hγ : c.γ id = some (b, z)) (hl : d'.length = d.length) :
    Rel w0 c (S.set id (.cells e (litC enc d'))) (Sort.putRow enc w b 0 d'.toArray) ∧ Mono c w c (Sort.putRow enc w b 0 d'.toArray) := by
  have hid := h.dom _ _ hγ
  have hob := h.obj id hid
  rw [hobj] at hob
  obtain ⟨g2, ⟨arr, fr, g3, gz, gl, g0⟩, gf, g4, g5⟩ := hob.2 b z hγ
  have hsz : (litC enc d).length = d.length := by simp [litC]
  have hother : ∀ k, k ≠ b → (Sort.putRow enc w b 0 d'.toArray).heap[k]? = w.heap[k]? := by
    intro k hk
    simp only [Sort.putRow, mapBlock, Array.getElem?_modify]
    rw [if_neg (fun e => hk e.symm)]
  have hblk : (Sort.putRow enc w b 0 d'.toArray).heap[b]? = some (.cells (putCells enc 0 d'.toArray arr) e fr) := by
    simp [Sort.putRow, mapBlock, Array.getElem?_modify, g3, onCells]
  refine h.change (w' := Sort.putRow enc w b 0 d'.toArray) id (.cells e (litC enc d')) b z hid hγ (by rw [hobj]; rfl) g2 (by simp [Sort.putRow, mapBlock]) ⟨rfl, rfl, rfl⟩ hother (fun j hj => absurd hj (g5 j)) fun m => ?_
  refine ⟨(fun hn => by rw [hγ] at hn; cases hn), fun b2 z2 h2 => ?_⟩
  rw [hγ] at h2
  injection h2 with h2; injection h2 with q1 q2; subst q1 q2
  refine ⟨g2, ⟨_, fr, hblk, by simp [putCells, gz], by simp only [litC, List.length_map]; rw [hl, ← hsz]; exact ⟨gl, g0⟩⟩, fun j hj => by rw [show (Sort.putRow enc w b 0 d'.toArray).frozen? ⟨b, j, none⟩ = w.frozen? ⟨b, j, none⟩ from frozen?_mapBlock _ _ _ _]; exact gf j hj, fun j x hx => ?_, g5⟩
  unfold litC at hx
  rw [List.getElem?_map] at hx
  obtain ⟨y, hy, rfl⟩ := Option.map_eq_some_iff.1 hx
  refine ⟨enc y, ?_, .lit _⟩
  rw [g0, Nat.zero_add]
  simp only [World.cell?, hblk]
  exact putCells_get enc d' arr (by rw [hl, ← hsz]; omega) j y hy
theorem holds_of {α : Type} [Inhabited α] {E : Env} {w0 : World} {c : Cx} {S : TS} {w : World} (hk : Ok E w0 c S w) {id e b : Nat} {z : Nat × Nat} (enc : α → Value) (d : List α) (hobj : S.objs id = .cells e (litC enc d)) (hγ : c.γ id = some (b, z)) : z.1 = 0 ∧ Holds enc w b 0 d.toArray ∧ b < w.heap.size := by
  have hob := hk.rel.obj id (hk.rel.dom _ _ hγ)
  rw [hobj] at hob
  obtain ⟨g2, ⟨arr, fr, g3, gz, gl, g0⟩, gf, g4, g5⟩ := hob.2 b z hγ
  have hsz : (litC enc d).length = d.length := by simp [litC]
  refine ⟨g0, fun j hj => ?_, (Array.getElem?_eq_some_iff.1 g3).1⟩
  have hj' : j < d.length := by simpa using hj
  obtain ⟨v, k1, k2⟩ := g4 j (.lit (enc d[j])) (by simp [litC, List.getElem?_map, List.getElem?_eq_getElem hj'])
  rw [k2.lit_inv, g0] at k1
  rw [k1]
  refine ⟨by simp [hj'], ?_⟩
  rw [Nat.zero_add]
  exact gf j (by omega)
/-- A call that turns a row's cells into others, and hands back nothing. -/
theorem TCall.sorted {α : Type} [Inhabited α] {E : Env} {f : FuncId} {S : TS} {id e n : Nat} (enc : α → Value) (d d' : List α) (ho : S.objs id = .cells e (litC enc d)) (hl : d'.length = d.length) (hn : n = d.length) (h0 : 0 < n) (he : Ent E.P f)
    (hc : ∀ blk cap w, Holds enc w blk 0 d.toArray → blk < w.heap.size → Calls E.P f #[.slice (some ⟨blk, 0, none⟩) d.length cap] w fun e w' => e = .returned (.tuple #[]) ∧ ∃ n os, w' = Sort.grow (Sort.putRow enc (Sort.ahead w n) blk 0 d'.toArray) os) :
    TCall E f [.vs id 0 1 n] S fun t S' => t = .tup [] ∧ S' = S.set id (.cells e (litC enc d')) := by
  intro w0 c w vs hk hv
  have hsz : vs.size = 1 := hv.size
  have hv0 := hv.rd 0 _ vs[0] rfl (Array.getElem?_eq_getElem (by omega))
  have hvs : vs = #[vs[0]] := by
    apply Array.ext
    · simpa using hsz
    · intro i h1 h2
      have : i = 0 := by simp at h2; exact h2
      subst this; rfl
  rw [hvs]
  generalize vs[0] = v at hv0 ⊢
  cases hv0 with
  | vs _ _ _ _ cap b z hγ hcap hz =>
    obtain ⟨g0, hH, hb⟩ := holds_of hk enc d ho hγ
    refine .inl ⟨he, ?_⟩
    have e0 : z.1 + 0 = 0 := by omega
    rw [e0, hn]
    refine (hc b cap w hH hb).mono fun e' w' ⟨h1, m, os, h2⟩ => ⟨_, h1, ?_⟩
    subst h2
    obtain ⟨r1, m1⟩ := hk.rel.ahead m
    obtain ⟨r2, m2⟩ := r1.putRow enc d d' ho hγ hl
    obtain ⟨r3, m3⟩ := r2.grow os
    exact ⟨.tup [], c, _, hk.step r3 ((m1.trans m2).trans m3), (m1.trans m2).trans m3, .tup [] #[] rfl (fun j t v h _ => by simp at h), rfl, rfl⟩
  | vsN => omega
end Go.Proofs.YtoldjfappfbfbaaGreatDoor.TL
