/-
  What the functions of the hash do: the sum.
-/
import Derived.Test.YteafcknljhglkaaDoorHc
set_option linter.unusedVariables false
set_option linter.unusedSimpArgs false
namespace Go.Proofs.YteafcknljhglkaaDoor
open Go.RowKit TL

theorem turn_len (h : List (BitVec 32)) (p : List (BitVec 8)) (hh : h.length = 8) : (turn h p).length = 8 := addUpto_len _ _ hh 8
def sumN : Nat → List (BitVec 32) → List (BitVec 8) → List (BitVec 32)
  | 0, h, _ => h
  | n + 1, h, q => sumN n (turn h (q.take 64)) (q.drop 64)
def wordB (x : BitVec 32) : List (BitVec 8) := [(x >>> 24).setWidth 8, (x >>> 16).setWidth 8, (x >>> 8).setWidth 8, x.setWidth 8]
def wordsB (h : List (BitVec 32)) : List (BitVec 8) := h.flatMap wordB
theorem wordsB_len : ∀ (h : List (BitVec 32)), (wordsB h).length = 4 * h.length
  | [] => rfl
  | x :: h => by have := wordsB_len h; simp [wordsB, wordB] at this ⊢; omega
theorem wordsB_snoc (h : List (BitVec 32)) (i : Nat) (hi : i < h.length) : wordsB (h.take (i + 1)) = wordsB (h.take i) ++ wordB (h.getD i 0) := by
  rw [List.take_succ_eq_append_getElem hi, wordsB, List.flatMap_append]
  simp [wordsB, List.getD_eq_getElem?_getD, List.getElem?_eq_getElem hi]
theorem sumN_len : ∀ (n : Nat) (h : List (BitVec 32)) (q : List (BitVec 8)), h.length = 8 → (sumN n h q).length = 8
  | 0, h, _, hh => hh
  | n + 1, h, q, hh => sumN_len n _ _ (turn_len _ _ hh)
def sha (p : List (BitVec 8)) : List (BitVec 8) := wordsB (sumN ((padding p).length / 64) fW (padding p))
theorem lenBytes_len (x : BitVec 64) : ∀ n, (lenBytes x n).length = n
  | 0 => rfl
  | n + 1 => by simp [lenBytes, lenBytes_len x n]
theorem padding_len (p : List (BitVec 8)) : (padding p).length % 64 = 0 := by
  simp [padding, nought, lenBytes_len]; omega
theorem padding_max (p : List (BitVec 8)) : (padding p).length ≤ p.length + 200 := by
  simp [padding, nought, lenBytes_len]; omega
theorem sha_len (p : List (BitVec 8)) : (sha p).length = 32 := by rw [sha, wordsB_len, sumN_len _ _ _ fW_len]

set_option maxRecDepth 8000 in
set_option maxHeartbeats 1000000 in
theorem c_hash_Sum_ok (S : TS) (g : Tag) (p : List (BitVec 8)) (hp : p.length ≤ 1000000) : TCall env 10 [.sl g 1 (dB p)] S fun r S' => ∃ k, r = .vs k 0 1 32 ∧ S.n ≤ k ∧ S'.objs k = .cells 5 (cellsD (dB (sha p))) ∧ Keep S S' := by
  have hz8 := z8_len
  have hf8 := fW_len
  have hpl := padding_len p
  refine TCall.of 40 [.tmp 2] Tryd.func10 rfl rfl rfl rfl (by kernel_rfl) rfl ?_
  refine TWp.sr fun K0 hK0 => ?_
  simp -implicitDefEqProofs (disch := omega) only [seval, go_sem]
  repeat (refine ⟨by omega, ?_⟩)
  refine hK0 _ _ ?_; try (clear hK0; clear K0)
  refine TWp.sr fun K1 hK1 => ?_
  simp -implicitDefEqProofs (disch := omega) only [seval, go_sem]
  repeat (refine ⟨by omega, ?_⟩)
  refine hK1 _ _ ?_; try (clear hK1; clear K1)
  refine TWp.seq_k fun K2 hK2 => ?_
  refine TWp.sr fun K3 hK3 => ?_
  simp -implicitDefEqProofs (disch := omega) only [seval, go_sem]
  repeat (refine ⟨by omega, ?_⟩)
  refine c_hash_padded ?_
  simp -implicitDefEqProofs (disch := omega) only [seval, go_sem]
  repeat (refine ⟨by omega, ?_⟩)
  refine hK3 _ _ ?_; try (clear hK3; clear K3)
  refine TWp.block ?_
  refine TWp.loop (fun n T S' => ∃ h q g', q.length = 64 * n ∧ sumN n h q = sumN ((padding p).length / 64) fW (padding p) ∧ h.length = 8 ∧ T 3 = .ptr S.n 0 ∧ T 4 = .sl g' 1 (dB q) ∧ S' = (S.push (.cells 37 (dW h))).push .lin) ((padding p).length / 64) ?_ ?_
  · exact ⟨_, _, _, by omega, rfl, fW_len, rfl, rfl, rfl⟩
  rintro n T S' ⟨h, q, g', hq, hsum, hh, h3, h4, rfl⟩
  have htl := turn_len h (q.take 64) hh
  have hdl : (q.take 64).length = min 64 q.length := List.length_take
  refine TWp.seq_k fun K4 hK4 => ?_
  refine TWp.sr fun K5 hK5 => ?_
  simp -implicitDefEqProofs (disch := omega) only [seval, go_sem, h3, h4]
  repeat (refine ⟨by omega, ?_⟩)
  refine hK5 _ _ ?_; try (clear hK5; clear K5)
  refine TWp.cond_k fun K6 hK6 => ?_
  simp -implicitDefEqProofs (disch := omega) only [seval, go_sem, h3, h4]
  refine hK6 _ (fun hb => ?_) (fun hb => ?_) <;> clear hK6 <;> clear K6
  · try (replace hb := of_decide_eq_true hb)
    refine TWp.skip ?_
    refine hK4 _ _ ?_; try (clear hK4; clear K4)
    refine TWp.seq_k fun K7 hK7 => ?_
    refine TWp.block ?_
    refine TWp.dk [(0, 0), (1, 0), (2, 0), (3, 2), (4, 2)] follows (by kernel_rfl) fun K8 hK8 => ?_
    simp -implicitDefEqProofs (disch := omega) only [seval, go_sem, h3, h4]
    repeat (refine ⟨by omega, ?_⟩)
    refine c_hash_turn ?_
    simp -implicitDefEqProofs (disch := omega) only [seval, go_sem, h3, h4]
    repeat (refine ⟨by omega, ?_⟩)
    refine hK8 _ _ ?_; try (clear hK8; clear K8)
    refine hK7 _ _ ?_; try (clear hK7; clear K7)
    refine TWp.rk fun K9 hK9 => ?_
    simp -implicitDefEqProofs (disch := omega) only [seval, go_sem, h3, h4]
    repeat (refine ⟨by omega, ?_⟩)
    refine hK9 _ _ ?_; try (clear hK9; clear K9)
    obtain ⟨n', rfl⟩ : ∃ n', n = n' + 1 := ⟨n - 1, by omega⟩
    refine ⟨n', by omega, turn h (q.take 64), q.drop 64, g', by simp [hq]; omega, hsum, htl, h3, rfl, rfl⟩
  · try (replace hb := of_decide_eq_false hb)
    obtain rfl : n = 0 := by omega
    refine TWp.exit ?_
    refine hK2 _ _ ?_; try (clear hK2; clear K2)
    refine TWp.sr fun K10 hK10 => ?_
    simp -implicitDefEqProofs (disch := omega) only [seval, go_sem, h3, h4]
    repeat (refine ⟨by omega, ?_⟩)
    refine hK10 _ _ ?_; try (clear hK10; clear K10)
    refine TWp.seq_k fun K11 hK11 => ?_
    refine TWp.sr fun K12 hK12 => ?_
    simp -implicitDefEqProofs (disch := omega) only [seval, go_sem, h3, h4]
    repeat (refine ⟨by omega, ?_⟩)
    refine hK12 _ _ ?_; try (clear hK12; clear K12)
    refine TWp.block ?_
    refine TWp.asBuf 5 5 1 rfl ?_
    simp only [TS.push_n]
    refine TWp.loop (fun n T S' => ∃ i k, n + i = 8 ∧ T 20 = .agg (dW h) ∧ T 21 = .lit (.int .i64 (i : Int)) ∧ T 5 = .vs k 0 1 (4 * i) ∧ S'.objs k = .cells 5 (cellsD (dB (wordsB (h.take i)))) ∧ S.n ≤ k ∧ Keep S S') (8) ?_ ?_
    · exact ⟨0, _, rfl, rfl, rfl, rfl, push_self _ _, by omega, (((Keep.push S _).push' _).push' _)⟩
    rintro n T S' ⟨i, k, hm2, h20, h21, h5, ho, hk, hkeep⟩
    have hwl := wordsB_len (h.take i)
    have hil : (h.take i).length = min i h.length := List.length_take
    refine TWp.sr fun K13 hK13 => ?_
    simp -implicitDefEqProofs (disch := omega) only [seval, go_sem, h20, h21, h5, ho]
    repeat (refine ⟨by omega, ?_⟩)
    refine hK13 _ _ ?_; try (clear hK13; clear K13)
    refine TWp.seq_k fun K14 hK14 => ?_
    refine TWp.cond_k fun K15 hK15 => ?_
    simp -implicitDefEqProofs (disch := omega) only [seval, go_sem, h20, h21, h5, ho]
    refine hK15 _ (fun hb => ?_) (fun hb => ?_) <;> clear hK15 <;> clear K15
    · try (replace hb := of_decide_eq_true hb)
      refine TWp.skip ?_
      refine hK14 _ _ ?_; try (clear hK14; clear K14)
      refine TWp.seq_k fun K16 hK16 => ?_
      refine TWp.block ?_
      refine TWp.sr fun K17 hK17 => ?_
      simp -implicitDefEqProofs (disch := omega) only [seval, go_sem, h20, h21, h5, ho]
      repeat (refine ⟨by omega, ?_⟩)
      refine hK17 _ _ ?_; try (clear hK17; clear K17)
      refine TWp.rk fun K18 hK18 => ?_
      simp -implicitDefEqProofs (disch := omega) only [seval, go_sem, h20, h21, h5, ho]
      repeat (refine ⟨by omega, ?_⟩)
      refine hK18 _ _ ?_; try (clear hK18; clear K18)
      refine hK16 _ _ ?_; try (clear hK16; clear K16)
      refine TWp.rk fun K19 hK19 => ?_
      simp -implicitDefEqProofs (disch := omega) only [seval, go_sem, h20, h21, h5, ho]
      repeat (refine ⟨by omega, ?_⟩)
      refine hK19 _ _ ?_; try (clear hK19; clear K19)
      refine ⟨n - 1, by omega, i + 1, S'.n, by omega, h20, rfl, rfl, ?_, hkeep.1, (hkeep.set hk _).push' _⟩
      refine (push_self (S'.set k .gone) _).trans ?_
      rw [wordsB_snoc h i (by omega), dB_app, cellsD_app]
      rfl
    · try (replace hb := of_decide_eq_false hb)
      refine TWp.exit ?_
      refine hK11 _ _ ?_; try (clear hK11; clear K11)
      refine TWp.sr fun K20 hK20 => ?_
      simp -implicitDefEqProofs (disch := omega) only [seval, go_sem, h20, h21, h5, ho]
      repeat (refine ⟨by omega, ?_⟩)
      refine hK20 _ _ ?_; try (clear hK20; clear K20)
      have hi : i = 8 := by omega
      subst hi
      have hht : h.take 8 = h := List.take_of_length_le (by omega)
      refine TWp.ret ⟨.inr rfl, [_], ⟨rfl, trivial⟩, k, rfl, hk, ?_, hkeep⟩
      rw [sha, ← hsum]
      rw [hht] at ho
      exact ho

theorem c_hash_Sum_w {S : TS} {g : Tag} {p : List (BitVec 8)} {K : TV → TS → Prop} (hK : K (.vs S.n 0 1 32) (S.push (.cells 5 (cellsD (dB (sha p)))))) (hp : p.length ≤ 1000000 := by omega) : TCall env 10 [.sl g 1 (dB p)] S K :=
  (TCall.buf (c_hash_Sum_ok S g p hp) (lits_F (fun x : BitVec 8 => w8 x) _)).mono fun t S' ⟨h1, h2⟩ => by rw [h1, h2]; exact hK
theorem c_hash_Sum {S : TS} {g : Tag} {p : List (BitVec 8)} {K : TV → TS → Prop} (hK : K (.sl (.own S.n) 1 (dB (sha p))) (S.push .lin)) (hp : p.length ≤ 1000000 := by omega) : TCall env 10 [.sl g 1 (dB p)] S K :=
  (TCall.freeze (c_hash_Sum_ok S g p hp) (by rw [cB_len, sha_len]) (fun S' id h => srcD_F (fun x : BitVec 8 => w8 x) (fun _ => rfl) h (sha_len p).symm (by decide))).mono fun t S' ⟨h1, h2⟩ => by rw [h1, h2]; exact hK

end Go.Proofs.YteafcknljhglkaaDoor
