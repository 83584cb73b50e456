/-
  What the reference's functions do: its Sum is the program's.
-/
import Derived.Test.YteafcknljhglkaaDoorHt
set_option linter.unusedVariables false
set_option linter.unusedSimpArgs false
namespace Go.Proofs.YteafcknljhglkaaDoor
open Go.RowKit TL

theorem getD_set_ne' {α : Type} (l : List α) (i j : Nat) (x d : α) (h : j ≠ i) : (l.set i x).getD j d = l.getD j d := by
  simp [List.getD_eq_getElem?_getD, List.getElem?_set, Ne.symm h]
theorem getD_set_eq' {α : Type} (l : List α) (i : Nat) (x d : α) (h : i < l.length) : (l.set i x).getD i d = x := by
  simp [List.getD_eq_getElem?_getD, List.getElem?_set, h]
theorem sched_get (p : List (BitVec 8)) : ∀ m j, j < m → m ≤ 64 → (sched p m).getD j 0 = wordStep p j (sched p j)
  | 0, j, h, _ => by omega
  | m + 1, j, h, hm => by
    rw [sched]
    by_cases hj : j = m
    · subst hj
      rw [getD_set_eq' _ _ _ _ (by rw [sched_len]; omega)]
    · rw [getD_set_ne' _ _ _ _ _ hj]
      exact sched_get p m j (by omega) (by omega)
theorem sched_take (p : List (BitVec 8)) (i j : Nat) (hj : j < i) (hi : i ≤ 64) : ((sched p 64).take i).getD j 0 = (sched p i).getD j 0 := by
  rw [sched_get p i j hj hi, ← sched_get p 64 j (by omega) (by omega)]
  simp [List.getD_eq_getElem?_getD, List.getElem?_take, hj]
theorem drop_take_get (q : List (BitVec 8)) (at_ i k : Nat) (h : 4 * i + k < 64) : ((q.drop at_).take 64).getD (4 * i + k) 0 = (q.drop (at_ + 4 * i)).getD k 0 := by
  simp only [List.getD_eq_getElem?_getD, List.getElem?_take, if_pos h, List.getElem?_drop, Nat.add_assoc]
theorem word_lo (q : List (BitVec 8)) (at_ i : Nat) (hi : i < 16) : (sched ((q.drop at_).take 64) 64).getD i 0 =
    BitVec.setWidth 32 ((q.drop (at_ + 4 * i)).getD 0 0#8) * 16777216#32 + BitVec.setWidth 32 ((q.drop (at_ + 4 * i)).getD 1 0#8) * 65536#32 + BitVec.setWidth 32 ((q.drop (at_ + 4 * i)).getD 2 0#8) * 256#32 + BitVec.setWidth 32 ((q.drop (at_ + 4 * i)).getD 3 0#8) := by
  rw [sched_get _ 64 i (by omega) (by omega), wordStep, if_pos hi, wordAt, word_eq]
  have h0 := drop_take_get q at_ i 0 (by omega)
  have h1 := drop_take_get q at_ i 1 (by omega)
  have h2 := drop_take_get q at_ i 2 (by omega)
  have h3 := drop_take_get q at_ i 3 (by omega)
  rw [Nat.add_zero] at h0
  rw [h0, h1, h2, h3]; rfl
theorem word_hi (b : List (BitVec 8)) (i : Nat) (h16 : 16 ≤ i) (hi : i < 64) : (sched b 64).getD i 0 =
    ((sched b 64).take i).getD (i - 16) 0#32 + (tr (((sched b 64).take i).getD (i - 15) 0#32) 7 ^^^ tr (((sched b 64).take i).getD (i - 15) 0#32) 18 ^^^ ((sched b 64).take i).getD (i - 15) 0#32 >>> 3) + ((sched b 64).take i).getD (i - 7) 0#32 +
      (tr (((sched b 64).take i).getD (i - 2) 0#32) 17 ^^^ tr (((sched b 64).take i).getD (i - 2) 0#32) 19 ^^^ ((sched b 64).take i).getD (i - 2) 0#32 >>> 10) := by
  have h1 := sched_take b i (i - 16) (by omega) (by omega)
  have h2 := sched_take b i (i - 15) (by omega) (by omega)
  have h3 := sched_take b i (i - 7) (by omega) (by omega)
  have h4 := sched_take b i (i - 2) (by omega) (by omega)
  have e := sched_get b 64 i (by omega) (by omega)
  rw [wordStep, if_neg (by omega), low, high, ← h1, ← h2, ← h3, ← h4, (rot_tr _).2.2.2.2.2.2.1, (rot_tr _).2.2.2.2.2.2.2.1, (rot_tr _).2.2.2.2.2.2.2.2.1, (rot_tr _).2.2.2.2.2.2.2.2.2] at e
  exact e
theorem turn_ref (bl : List (BitVec 8)) (hs : List (BitVec 32)) (i : Nat) (a b c d e f g x : BitVec 32) (h : turnUpto bl hs i = [a, b, c, d, e, f, g, x]) :
    turnUpto bl hs (i + 1) = [(x + (tr e 6 ^^^ tr e 11 ^^^ tr e 25) + (e &&& f ^^^ ~~~e &&& g) + kW.getD i 0#32 + (sched bl 64).getD i 0#32) + ((tr a 2 ^^^ tr a 13 ^^^ tr a 22) + (a &&& b ||| c &&& (a ||| b))), a, b, c, d + (x + (tr e 6 ^^^ tr e 11 ^^^ tr e 25) + (e &&& f ^^^ ~~~e &&& g) + kW.getD i 0#32 + (sched bl 64).getD i 0#32), e, f, g] := by
  rw [turnUpto, h]
  generalize sched bl 64 = w
  rw [most_eq]
  have e1 := rot_tr e
  have a1 := rot_tr a
  simp only [turnStep, List.getD_cons_zero, List.getD_cons_succ, e1, a1]
  simp only [List.take, splL, List.getD_cons_zero, List.getD_cons_succ, List.set_cons_zero, List.set_cons_succ]
  rw [BitVec.add_assoc]; rfl
theorem add_ref (h : List (BitVec 32)) (bl : List (BitVec 8)) (hh : h.length = 8) (a b c d e f g x : BitVec 32) (ht : turnUpto bl h 64 = [a, b, c, d, e, f, g, x]) :
    turn h bl = [h.getD 0 0#32 + a, h.getD 1 0#32 + b, h.getD 2 0#32 + c, h.getD 3 0#32 + d, h.getD 4 0#32 + e, h.getD 5 0#32 + f, h.getD 6 0#32 + g, h.getD 7 0#32 + x] := by
  rw [turn, ht]
  clear ht
  match h, hh with
  | [h0, h1, h2, h3, h4, h5, h6, h7], _ =>
    simp only [addUpto, List.getD_cons_zero, List.getD_cons_succ, List.set_cons_zero, List.set_cons_succ]

set_option maxRecDepth 20000 in
set_option maxHeartbeats 4000000 in
theorem c_godownref02_Sum_ok (S : TS) (g1 g2 g : Tag) (p : List (BitVec 8)) (hp : p.length ≤ 1000000) : TCall env 11 [.agg [.sl g1 1 (gD fW), .sl g2 1 (gD kW)], .sl g 1 (dB p)] S fun r S' => ∃ k, r = .sl (.own k) 1 (dB (sha p)) ∧ S.n ≤ k ∧ S'.objs k = .lin ∧ Keep S S' := by
  have hf8 := fW_len
  have hk64 := kW_len
  obtain ⟨PP, hPP⟩ : ∃ PP, PP = padding p := ⟨_, rfl⟩
  have hpm : PP.length ≤ p.length + 200 := by rw [hPP]; exact padding_max p
  have hpl : PP.length % 64 = 0 := by rw [hPP]; exact padding_len p
  refine TCall.of 306 [.tmp 4] Tryd.func11 rfl rfl rfl rfl (by kernel_rfl) rfl ?_
  refine TWp.sr fun K0 hK0 => ?_
  simp -implicitDefEqProofs (disch := omega) only [seval, go_sem]
  repeat (refine ⟨by omega, ?_⟩)
  refine hK0 _ _ ?_; try (clear hK0; clear K0)
  refine TWp.sr fun K1 hK1 => ?_
  simp -implicitDefEqProofs (disch := omega) only [seval, go_sem]
  repeat (refine ⟨by omega, ?_⟩)
  refine hK1 _ _ ?_; try (clear hK1; clear K1)
  refine TWp.sr fun K2 hK2 => ?_
  simp -implicitDefEqProofs (disch := omega) only [seval, go_sem]
  repeat (refine ⟨by omega, ?_⟩)
  refine hK2 _ _ ?_; try (clear hK2; clear K2)
  refine TWp.sr fun K3 hK3 => ?_
  simp -implicitDefEqProofs (disch := omega) only [seval, go_sem]
  repeat (refine ⟨by omega, ?_⟩)
  refine hK3 _ _ ?_; try (clear hK3; clear K3)
  refine TWp.seq_k fun K4 hK4 => ?_
  refine TWp.block ?_
  refine TWp.loop (fun n T S' => ∃ xs k, T 1 = .sl g 1 (dB p) ∧ T 2 = .ptr S.n 0 ∧ T 5 = .sl (.own k) 1 (dB xs) ∧ S'.objs k = .lin ∧ S.n < k ∧ S'.objs S.n = .cells 30 [.sl g1 1 (gD fW), .sl g2 1 (gD kW)] ∧ S.n < S'.n ∧ Keep S S' ∧ xs.length + n ≤ 1000100 ∧ n = nought xs ∧ xs ++ List.replicate n 0#8 = (p ++ [128#8]) ++ List.replicate (nought (p ++ [128#8])) 0#8) (nought (p ++ [128#8])) ?_ ?_
  · refine ⟨p ++ [128#8], S.n + 1 + 1, rfl, rfl, by rw [dB_app]; rfl, push_self _ _, by omega, (push_lt (by simp only [TS.push_n]; omega)).trans ((push_lt (by simp only [TS.push_n]; omega)).trans (push_self _ _)), by simp only [TS.push_n]; omega, ((Keep.push S _).push' _).push' _, ?_, rfl, rfl⟩
    simp [nought]; omega
  rintro n T S' ⟨xs, k, h1, h2, h5, o5, b5, o0, bn, hkeep, hlen, hn, hxs⟩
  refine TWp.seq_k fun K5 hK5 => ?_
  refine TWp.sr fun K6 hK6 => ?_
  simp -implicitDefEqProofs (disch := omega) only [seval, go_sem, h1, h2, h5, o5, o0]
  repeat (refine ⟨by omega, ?_⟩)
  refine hK6 _ _ ?_; try (clear hK6; clear K6)
  refine TWp.cond_k fun K7 hK7 => ?_
  simp -implicitDefEqProofs (disch := omega) only [seval, go_sem, h1, h2, h5, o5, o0]
  refine hK7 _ (fun hb => ?_) (fun hb => ?_) <;> clear hK7 <;> clear K7
  · try (replace hb := of_decide_eq_true hb)
    refine TWp.skip ?_
    refine hK5 _ _ ?_; try (clear hK5; clear K5)
    refine TWp.block ?_
    refine TWp.rk fun K8 hK8 => ?_
    simp -implicitDefEqProofs (disch := omega) only [seval, go_sem, h1, h2, h5, o5, o0]
    repeat (refine ⟨by omega, ?_⟩)
    refine hK8 _ _ ?_; try (clear hK8; clear K8)
    have h1n : nought xs = nought (xs ++ [0#8]) + 1 := by simp [nought]; omega
    refine ⟨nought (xs ++ [0#8]), by omega, xs ++ [0#8], S'.n, h1, h2, by rw [dB_app]; rfl, push_self _ _, bn, (setpush_lt bn (by omega)).trans o0, Nat.lt_succ_of_lt bn, (hkeep.set (by omega) _).push' _, by simp; omega, rfl, ?_⟩
    rw [← hxs, hn, h1n, List.replicate_succ]; simp
  · try (replace hb := of_decide_eq_false hb)
    refine TWp.exit ?_
    refine hK4 _ _ ?_; try (clear hK4; clear K4)
    refine TWp.sr fun K9 hK9 => ?_
    simp -implicitDefEqProofs (disch := omega) only [seval, go_sem, h1, h2, h5, o5, o0]
    repeat (refine ⟨by omega, ?_⟩)
    refine hK9 _ _ ?_; try (clear hK9; clear K9)
    refine TWp.seq_k fun K10 hK10 => ?_
    refine TWp.sr fun K11 hK11 => ?_
    simp -implicitDefEqProofs (disch := omega) only [seval, go_sem, h1, h2, h5, o5, o0]
    repeat (refine ⟨by omega, ?_⟩)
    refine hK11 _ _ ?_; try (clear hK11; clear K11)
    refine TWp.block ?_
    refine TWp.loop (fun n T S' => ∃ ys k i, n + i = 8 ∧ T 1 = .sl g 1 (dB p) ∧ T 2 = .ptr S.n 0 ∧ T 6 = .lit (w64 (BitVec.ofNat 64 p.length * 8#64)) ∧ T 7 = .lit (.int .i64 (i : Int)) ∧ T 5 = .sl (.own k) 1 (dB ys) ∧ S'.objs k = .lin ∧ S.n < k ∧ S'.objs S.n = .cells 30 [.sl g1 1 (gD fW), .sl g2 1 (gD kW)] ∧ S.n < S'.n ∧ Keep S S' ∧ ys.length + n ≤ 1000300 ∧ ys ++ lenBytes (BitVec.ofNat 64 p.length * 8#64) n = PP) (8) ?_ ?_
    · have hn0 : n = 0 := by rw [hn]; simp only [nought]; omega
      subst hn0
      refine ⟨xs, k, 0, rfl, h1, h2, rfl, rfl, h5, o5, b5, o0, bn, hkeep, by omega, ?_⟩
      rw [hPP, padding, ← hxs]; simp
    rintro n T S' ⟨ys, k, i, hi, h1, h2, h6, h7, h5, o5, b5, o0, bn, hkeep, hlen, hys⟩
    refine TWp.seq_k fun K12 hK12 => ?_
    refine TWp.sr fun K13 hK13 => ?_
    simp -implicitDefEqProofs (disch := omega) only [seval, go_sem, h1, h2, h5, h6, h7, o5, o0]
    repeat (refine ⟨by omega, ?_⟩)
    refine hK13 _ _ ?_; try (clear hK13; clear K13)
    refine TWp.cond_k fun K14 hK14 => ?_
    simp -implicitDefEqProofs (disch := omega) only [seval, go_sem, h1, h2, h5, h6, h7, o5, o0]
    refine hK14 _ (fun hb => ?_) (fun hb => ?_) <;> clear hK14 <;> clear K14
    · try (replace hb := of_decide_eq_true hb)
      refine TWp.skip ?_
      refine hK12 _ _ ?_; try (clear hK12; clear K12)
      refine TWp.seq_k fun K15 hK15 => ?_
      refine TWp.block ?_
      refine TWp.rk fun K16 hK16 => ?_
      simp -implicitDefEqProofs (disch := omega) only [seval, go_sem, h1, h2, h5, h6, h7, o5, o0]
      repeat (refine ⟨by omega, ?_⟩)
      refine hK16 _ _ ?_; try (clear hK16; clear K16)
      refine hK15 _ _ ?_; try (clear hK15; clear K15)
      refine TWp.rk fun K17 hK17 => ?_
      simp -implicitDefEqProofs (disch := omega) only [seval, go_sem, h1, h2, h5, h6, h7, o5, o0]
      repeat (refine ⟨by omega, ?_⟩)
      refine hK17 _ _ ?_; try (clear hK17; clear K17)
      obtain ⟨j, rfl⟩ : ∃ j, n = j + 1 := ⟨n - 1, by omega⟩
      have he : 56 - 8 * i = 8 * j := by omega
      refine ⟨j, by omega, ys ++ [((BitVec.ofNat 64 p.length * 8#64) >>> (8 * j)).setWidth 8], S'.n, i + 1, by omega, h1, h2, h6, rfl, ?_, push_self _ _, bn, (setpush_lt bn (by omega)).trans o0, Nat.lt_succ_of_lt bn, (hkeep.set (by omega) _).push' _, by simp; omega, ?_⟩
      · rw [dB_app, he]; rfl
      · rw [← hys]; simp [lenBytes]
    · try (replace hb := of_decide_eq_false hb)
      refine TWp.exit ?_
      refine hK10 _ _ ?_; try (clear hK10; clear K10)
      refine TWp.sr fun K18 hK18 => ?_
      simp -implicitDefEqProofs (disch := omega) only [seval, go_sem, h1, h2, h5, h6, h7, o5, o0]
      repeat (refine ⟨by omega, ?_⟩)
      refine hK18 _ _ ?_; try (clear hK18; clear K18)
      refine TWp.seq_k fun K19 hK19 => ?_
      refine TWp.sr fun K20 hK20 => ?_
      simp -implicitDefEqProofs (disch := omega) only [seval, go_sem, h1, h2, h5, h6, h7, o5, o0]
      repeat (refine ⟨by omega, ?_⟩)
      refine hK20 _ _ ?_; try (clear hK20; clear K20)
      refine TWp.block ?_
      refine TWp.loop (fun n T S' => ∃ at_ h g5 g8, at_ + 64 * n = PP.length ∧ h.length = 8 ∧ sumN n h (PP.drop at_) = sumN (PP.length / 64) fW PP ∧ T 9 = .lit (.int .i64 (at_ : Int)) ∧ T 2 = .ptr S.n 0 ∧ T 5 = .sl g5 1 (dB PP) ∧ T 8 = .sl g8 1 (gD h) ∧ S'.objs S.n = .cells 30 [.sl g1 1 (gD fW), .sl g2 1 (gD kW)] ∧ S.n < S'.n ∧ Keep S S') (PP.length / 64) ?_ ?_
      · have hn0 : n = 0 := by omega
        have hy : ys = PP := by rw [← hys, hn0]; simp [lenBytes]
        exact ⟨0, fW, _, _, by omega, fW_len, by simp, rfl, h2, by rw [← hy]; exact h5, rfl, (push_lt bn).trans o0, Nat.lt_succ_of_lt bn, hkeep.push' _⟩
      rintro n T S' ⟨at_, h, g5, g8, hat, hh, hsum, h9, h2, h5, h8, o0, bn, hkeep⟩
      obtain ⟨n3, rfl⟩ : ∃ n3, n3 = n := ⟨n, rfl⟩
      obtain ⟨W, hW⟩ : ∃ W, W = sched ((PP.drop at_).take 64) 64 := ⟨_, rfl⟩
      have hsl : W.length = 64 := by rw [hW]; exact sched_len _ 64
      refine TWp.seq_k fun K21 hK21 => ?_
      refine TWp.sr fun K22 hK22 => ?_
      simp -implicitDefEqProofs (disch := omega) only [seval, go_sem, h2, h5, h8, h9, o0]
      repeat (refine ⟨by omega, ?_⟩)
      refine hK22 _ _ ?_; try (clear hK22; clear K22)
      refine TWp.cond_k fun K23 hK23 => ?_
      simp -implicitDefEqProofs (disch := omega) only [seval, go_sem, h2, h5, h8, h9, o0]
      refine hK23 _ (fun hb => ?_) (fun hb => ?_) <;> clear hK23 <;> clear K23
      · try (replace hb := of_decide_eq_true hb)
        refine TWp.skip ?_
        refine hK21 _ _ ?_; try (clear hK21; clear K21)
        refine TWp.seq_k fun K24 hK24 => ?_
        refine TWp.block ?_
        refine TWp.sr fun K25 hK25 => ?_
        simp -implicitDefEqProofs (disch := omega) only [seval, go_sem, h2, h5, h8, h9, o0]
        repeat (refine ⟨by omega, ?_⟩)
        refine hK25 _ _ ?_; try (clear hK25; clear K25)
        refine TWp.seq_k fun K26 hK26 => ?_
        refine TWp.sr fun K27 hK27 => ?_
        simp -implicitDefEqProofs (disch := omega) only [seval, go_sem, h2, h5, h8, h9, o0]
        repeat (refine ⟨by omega, ?_⟩)
        refine hK27 _ _ ?_; try (clear hK27; clear K27)
        refine TWp.block ?_
        refine TWp.asRow 10 1 rfl (.inl rfl) ?_
        refine TWp.loop (fun n T S' => ∃ i k, n + i = 64 ∧ T 11 = .lit (.int .i64 (i : Int)) ∧ T 10 = .sl (.own k) 1 (gD (W.take i)) ∧ S'.objs k = .lin ∧ S.n < k ∧ T 9 = .lit (.int .i64 (at_ : Int)) ∧ T 2 = .ptr S.n 0 ∧ T 5 = .sl g5 1 (dB PP) ∧ T 8 = .sl g8 1 (gD h) ∧ S'.objs S.n = .cells 30 [.sl g1 1 (gD fW), .sl g2 1 (gD kW)] ∧ S.n < S'.n ∧ Keep S S') (64) ?_ ?_
        · exact ⟨0, S'.n, rfl, rfl, rfl, push_self _ _, bn, h9, h2, h5, h8, (push_lt bn).trans o0, Nat.lt_succ_of_lt bn, hkeep.push' _⟩
        rintro n T S' ⟨i, k, hi, h11, h10, o10, b10, h9, h2, h5, h8, o0, bn, hkeep⟩
        have htl : (W.take i).length = min i W.length := List.length_take
        have hdl : (PP.drop (at_ + 4 * i)).length = PP.length - (at_ + 4 * i) := List.length_drop
        refine TWp.seq_k fun K28 hK28 => ?_
        refine TWp.sr fun K29 hK29 => ?_
        simp -implicitDefEqProofs (disch := omega) only [seval, go_sem, h2, h5, h8, h9, h10, h11, o0, o10]
        repeat (refine ⟨by omega, ?_⟩)
        refine hK29 _ _ ?_; try (clear hK29; clear K29)
        refine TWp.cond_k fun K30 hK30 => ?_
        simp -implicitDefEqProofs (disch := omega) only [seval, go_sem, h2, h5, h8, h9, h10, h11, o0, o10]
        refine hK30 _ (fun hb => ?_) (fun hb => ?_) <;> clear hK30 <;> clear K30
        · try (replace hb := of_decide_eq_true hb)
          refine TWp.skip ?_
          refine hK28 _ _ ?_; try (clear hK28; clear K28)
          refine TWp.seq_k fun K31 hK31 => ?_
          refine TWp.block ?_
          refine TWp.sr fun K32 hK32 => ?_
          simp -implicitDefEqProofs (disch := omega) only [seval, go_sem, h2, h5, h8, h9, h10, h11, o0, o10]
          repeat (refine ⟨by omega, ?_⟩)
          refine hK32 _ _ ?_; try (clear hK32; clear K32)
          refine TWp.cond_k fun K33 hK33 => ?_
          simp -implicitDefEqProofs (disch := omega) only [seval, go_sem, h2, h5, h8, h9, h10, h11, o0, o10]
          refine hK33 _ (fun hb => ?_) (fun hb => ?_) <;> clear hK33 <;> clear K33
          · try (replace hb := of_decide_eq_true hb)
            refine TWp.sr fun K34 hK34 => ?_
            simp -implicitDefEqProofs (disch := omega) only [seval, go_sem, h2, h5, h8, h9, h10, h11, o0, o10]
            repeat (refine ⟨by omega, ?_⟩)
            refine hK34 _ _ ?_; try (clear hK34; clear K34)
            refine TWp.dk [(0, 0), (1, 0), (2, 0), (3, 0), (4, 0), (5, 0), (6, 0), (7, 0), (8, 0), (9, 0), (10, 0), (11, 0), (12, 0), (13, 0), (14, 0), (15, 0), (16, 0), (17, 0), (18, 0), (19, 0), (20, 0), (21, 0), (22, 0), (23, 1), (24, 2), (25, 0)] follows (by kernel_rfl) fun K35 hK35 => ?_
            simp -implicitDefEqProofs (disch := omega) only [seval, go_sem, h2, h5, h8, h9, h10, h11, o0, o10]
            repeat (refine ⟨by omega, ?_⟩)
            refine hK35 _ _ ?_; try (clear hK35; clear K35)
            refine hK31 _ _ ?_; try (clear hK31; clear K31)
            refine TWp.rk fun K36 hK36 => ?_
            simp -implicitDefEqProofs (disch := omega) only [seval, go_sem, h2, h5, h8, h9, h10, h11, o0, o10]
            repeat (refine ⟨by omega, ?_⟩)
            refine hK36 _ _ ?_; try (clear hK36; clear K36)
            refine ⟨n - 1, by omega, i + 1, S'.n, by omega, rfl, ?_, push_self _ _, bn, h9, h2, h5, h8, (setpush_lt bn (by omega)).trans o0, Nat.lt_succ_of_lt bn, (hkeep.set (by omega) _).push' _⟩
            rw [take_succ_getD 0 (show i < W.length by omega), gD_app, hW, word_lo PP at_ i (by omega), ← hW]; rfl
          · try (replace hb := of_decide_eq_false hb)
            refine TWp.sd [(0, 0), (1, 0), (2, 0), (3, 0), (4, 0), (5, 0), (6, 0), (7, 0), (8, 0), (9, 0), (10, 0), (11, 0)] follows (by kernel_rfl) fun K37 hK37 => ?_
            simp -implicitDefEqProofs (disch := omega) only [seval, go_sem, h2, h5, h8, h9, h10, h11, o0, o10]
            repeat (refine ⟨by omega, ?_⟩)
            refine hK37 _ _ ?_; try (clear hK37; clear K37)
            refine TWp.dk [(0, 0), (1, 0), (2, 0), (3, 0), (4, 0), (5, 0), (6, 0), (8, 0), (11, 0), (12, 0), (15, 0), (16, 0), (17, 0), (18, 0), (19, 0), (21, 0), (23, 0), (26, 0), (27, 0), (7, 1), (9, 1), (10, 0), (13, 0), (14, 0), (20, 0), (22, 1), (24, 1), (25, 0), (28, 0), (29, 0), (30, 1), (31, 2), (32, 0)] follows (by kernel_rfl) fun K38 hK38 => ?_
            simp -implicitDefEqProofs (disch := omega) only [seval, go_sem, h2, h5, h8, h9, h10, h11, o0, o10]
            repeat (refine ⟨by omega, ?_⟩)
            refine c_godownref02_turned ?_
            simp -implicitDefEqProofs (disch := omega) only [seval, go_sem, h2, h5, h8, h9, h10, h11, o0, o10]
            repeat (refine ⟨by omega, ?_⟩)
            refine c_godownref02_turned ?_
            simp -implicitDefEqProofs (disch := omega) only [seval, go_sem, h2, h5, h8, h9, h10, h11, o0, o10]
            repeat (refine ⟨by omega, ?_⟩)
            refine c_godownref02_turned ?_
            simp -implicitDefEqProofs (disch := omega) only [seval, go_sem, h2, h5, h8, h9, h10, h11, o0, o10]
            repeat (refine ⟨by omega, ?_⟩)
            refine c_godownref02_turned ?_
            simp -implicitDefEqProofs (disch := omega) only [seval, go_sem, h2, h5, h8, h9, h10, h11, o0, o10]
            repeat (refine ⟨by omega, ?_⟩)
            refine hK38 _ _ ?_; try (clear hK38; clear K38)
            refine hK31 _ _ ?_; try (clear hK31; clear K31)
            refine TWp.rk fun K39 hK39 => ?_
            simp -implicitDefEqProofs (disch := omega) only [seval, go_sem, h2, h5, h8, h9, h10, h11, o0, o10]
            repeat (refine ⟨by omega, ?_⟩)
            refine hK39 _ _ ?_; try (clear hK39; clear K39)
            refine ⟨n - 1, by omega, i + 1, S'.n, by omega, rfl, ?_, push_self _ _, bn, h9, h2, h5, h8, (setpush_lt bn (by omega)).trans o0, Nat.lt_succ_of_lt bn, (hkeep.set (by omega) _).push' _⟩
            rw [take_succ_getD 0 (show i < W.length by omega), gD_app, hW, word_hi _ i (by omega) (by omega), ← hW]; rfl
        · try (replace hb := of_decide_eq_false hb)
          refine TWp.exit ?_
          refine hK26 _ _ ?_; try (clear hK26; clear K26)
          refine TWp.sd [(0, 0), (1, 0), (2, 0), (3, 0), (4, 0), (5, 0), (6, 0), (7, 0), (8, 0), (9, 0), (10, 0), (11, 0), (12, 0), (13, 0), (14, 0), (15, 0), (16, 0), (17, 0), (18, 0), (19, 0), (20, 0), (21, 0), (22, 0), (23, 0), (24, 0), (25, 0), (26, 0), (27, 0), (28, 0), (29, 0), (30, 0), (31, 0)] follows (by kernel_rfl) fun K40 hK40 => ?_
          simp -implicitDefEqProofs (disch := omega) only [seval, go_sem, h2, h5, h8, h9, h10, h11, o0, o10]
          repeat (refine ⟨by omega, ?_⟩)
          refine hK40 _ _ ?_; try (clear hK40; clear K40)
          refine TWp.seq_k fun K41 hK41 => ?_
          refine TWp.sr fun K42 hK42 => ?_
          simp -implicitDefEqProofs (disch := omega) only [seval, go_sem, h2, h5, h8, h9, h10, h11, o0, o10]
          repeat (refine ⟨by omega, ?_⟩)
          refine hK42 _ _ ?_; try (clear hK42; clear K42)
          refine TWp.block ?_
          refine TWp.loop (fun n T S' => ∃ i a b c d e f g x gw, n + i = 64 ∧ turnUpto ((PP.drop at_).take 64) h i = [a, b, c, d, e, f, g, x] ∧ T 15 = .lit (w32 a) ∧ T 16 = .lit (w32 b) ∧ T 17 = .lit (w32 c) ∧ T 18 = .lit (w32 d) ∧ T 19 = .lit (w32 e) ∧ T 20 = .lit (w32 f) ∧ T 21 = .lit (w32 g) ∧ T 22 = .lit (w32 x) ∧ T 23 = .lit (.int .i64 (i : Int)) ∧ T 10 = .sl gw 1 (gD W) ∧ T 9 = .lit (.int .i64 (at_ : Int)) ∧ T 2 = .ptr S.n 0 ∧ T 5 = .sl g5 1 (dB PP) ∧ T 8 = .sl g8 1 (gD h) ∧ S'.objs S.n = .cells 30 [.sl g1 1 (gD fW), .sl g2 1 (gD kW)] ∧ S.n < S'.n ∧ Keep S S') (64) ?_ ?_
          · have hi64 : i = 64 := by omega
            have hWt : W.take i = W := by rw [hi64]; exact List.take_of_length_le (by omega)
            refine ⟨0, _, _, _, _, _, _, _, _, _, rfl, ?_, rfl, rfl, rfl, rfl, rfl, rfl, rfl, rfl, rfl, by rw [← hWt]; exact h10, h9, h2, h5, h8, o0, bn, hkeep⟩
            clear hK26
            match h, hh with
            | [q0, q1, q2, q3, q4, q5, q6, q7], _ => rfl
          rintro n T S' ⟨i, a, b, c, d, e, f, gg, x, gw, hi, htu, h15, h16, h17, h18, h19, h20, h21, h22, h23, h10, h9, h2, h5, h8, o0, bn, hkeep⟩
          refine TWp.seq_k fun K43 hK43 => ?_
          refine TWp.sr fun K44 hK44 => ?_
          simp -implicitDefEqProofs (disch := omega) only [seval, go_sem, h2, h5, h8, h9, h10, h15, h16, h17, h18, h19, h20, h21, h22, h23, o0]
          repeat (refine ⟨by omega, ?_⟩)
          refine hK44 _ _ ?_; try (clear hK44; clear K44)
          refine TWp.cond_k fun K45 hK45 => ?_
          simp -implicitDefEqProofs (disch := omega) only [seval, go_sem, h2, h5, h8, h9, h10, h15, h16, h17, h18, h19, h20, h21, h22, h23, o0]
          refine hK45 _ (fun hb => ?_) (fun hb => ?_) <;> clear hK45 <;> clear K45
          · try (replace hb := of_decide_eq_true hb)
            refine TWp.skip ?_
            refine hK43 _ _ ?_; try (clear hK43; clear K43)
            refine TWp.seq_k fun K46 hK46 => ?_
            refine TWp.block ?_
            refine TWp.sd [(0, 0), (1, 0), (3, 0), (6, 0), (10, 0), (11, 0), (12, 0), (13, 0), (14, 0), (15, 0), (16, 0), (17, 0), (19, 0), (20, 0), (21, 0), (22, 0), (23, 0), (25, 0), (26, 0), (27, 0), (28, 0), (2, 1), (4, 1), (5, 0), (7, 1), (8, 0), (9, 0), (18, 0), (24, 0), (29, 0), (30, 0)] follows (by kernel_rfl) fun K47 hK47 => ?_
            simp -implicitDefEqProofs (disch := omega) only [seval, go_sem, h2, h5, h8, h9, h10, h15, h16, h17, h18, h19, h20, h21, h22, h23, o0]
            repeat (refine ⟨by omega, ?_⟩)
            refine c_godownref02_turned ?_
            simp -implicitDefEqProofs (disch := omega) only [seval, go_sem, h2, h5, h8, h9, h10, h15, h16, h17, h18, h19, h20, h21, h22, h23, o0]
            repeat (refine ⟨by omega, ?_⟩)
            refine c_godownref02_turned ?_
            simp -implicitDefEqProofs (disch := omega) only [seval, go_sem, h2, h5, h8, h9, h10, h15, h16, h17, h18, h19, h20, h21, h22, h23, o0]
            repeat (refine ⟨by omega, ?_⟩)
            refine c_godownref02_turned ?_
            simp -implicitDefEqProofs (disch := omega) only [seval, go_sem, h2, h5, h8, h9, h10, h15, h16, h17, h18, h19, h20, h21, h22, h23, o0]
            repeat (refine ⟨by omega, ?_⟩)
            refine hK47 _ _ ?_; try (clear hK47; clear K47)
            refine TWp.sr fun K48 hK48 => ?_
            simp -implicitDefEqProofs (disch := omega) only [seval, go_sem, h2, h5, h8, h9, h10, h15, h16, h17, h18, h19, h20, h21, h22, h23, o0]
            repeat (refine ⟨by omega, ?_⟩)
            refine c_godownref02_turned ?_
            simp -implicitDefEqProofs (disch := omega) only [seval, go_sem, h2, h5, h8, h9, h10, h15, h16, h17, h18, h19, h20, h21, h22, h23, o0]
            repeat (refine ⟨by omega, ?_⟩)
            refine c_godownref02_turned ?_
            simp -implicitDefEqProofs (disch := omega) only [seval, go_sem, h2, h5, h8, h9, h10, h15, h16, h17, h18, h19, h20, h21, h22, h23, o0]
            repeat (refine ⟨by omega, ?_⟩)
            refine c_godownref02_turned ?_
            simp -implicitDefEqProofs (disch := omega) only [seval, go_sem, h2, h5, h8, h9, h10, h15, h16, h17, h18, h19, h20, h21, h22, h23, o0]
            repeat (refine ⟨by omega, ?_⟩)
            refine hK48 _ _ ?_; try (clear hK48; clear K48)
            refine TWp.rk fun K49 hK49 => ?_
            simp -implicitDefEqProofs (disch := omega) only [seval, go_sem, h2, h5, h8, h9, h10, h15, h16, h17, h18, h19, h20, h21, h22, h23, o0]
            repeat (refine ⟨by omega, ?_⟩)
            refine hK49 _ _ ?_; try (clear hK49; clear K49)
            refine hK46 _ _ ?_; try (clear hK46; clear K46)
            refine TWp.rk fun K50 hK50 => ?_
            simp -implicitDefEqProofs (disch := omega) only [seval, go_sem, h2, h5, h8, h9, h10, h15, h16, h17, h18, h19, h20, h21, h22, h23, o0]
            repeat (refine ⟨by omega, ?_⟩)
            refine hK50 _ _ ?_; try (clear hK50; clear K50)
            refine ⟨n - 1, by omega, i + 1, _, _, _, _, _, _, _, _, gw, by omega, turn_ref _ _ _ _ _ _ _ _ _ _ _ htu, ?_, rfl, rfl, rfl, ?_, rfl, rfl, rfl, rfl, h10, h9, h2, h5, h8, o0, bn, hkeep⟩
            · rw [← hW]; rfl
            · rw [← hW]; rfl
          · try (replace hb := of_decide_eq_false hb)
            refine TWp.exit ?_
            refine hK41 _ _ ?_; try (clear hK41; clear K41)
            refine TWp.dk [(0, 0), (1, 0), (2, 0), (3, 0), (4, 0), (5, 0), (6, 0), (7, 0), (8, 0), (9, 0), (10, 0), (11, 0), (12, 0), (13, 0), (14, 0), (15, 0), (16, 0), (17, 0), (18, 0), (19, 0), (20, 0), (21, 0), (22, 0), (23, 0), (24, 0), (25, 0), (26, 0), (27, 0), (28, 0), (29, 0), (30, 0), (31, 0), (32, 0), (33, 0), (34, 0), (35, 0), (36, 0), (37, 0), (38, 0), (39, 0), (40, 2), (41, 0)] follows (by kernel_rfl) fun K51 hK51 => ?_
            simp -implicitDefEqProofs (disch := omega) only [seval, go_sem, h2, h5, h8, h9, h10, h15, h16, h17, h18, h19, h20, h21, h22, h23, o0]
            repeat (refine ⟨by omega, ?_⟩)
            refine hK51 _ _ ?_; try (clear hK51; clear K51)
            refine hK24 _ _ ?_; try (clear hK24; clear K24)
            refine TWp.rk fun K52 hK52 => ?_
            simp -implicitDefEqProofs (disch := omega) only [seval, go_sem, h2, h5, h8, h9, h10, h15, h16, h17, h18, h19, h20, h21, h22, h23, o0]
            repeat (refine ⟨by omega, ?_⟩)
            refine hK52 _ _ ?_; try (clear hK52; clear K52)
            obtain ⟨m3, rfl⟩ : ∃ m3, n3 = m3 + 1 := ⟨n3 - 1, by omega⟩
            have hi64 : i = 64 := by omega
            subst hi64
            refine ⟨m3, by omega, at_ + 64, _, g5, .full, by omega, turn_len h ((PP.drop at_).take 64) hh, ?_, rfl, h2, h5, ?_, o0, bn, hkeep⟩
            · rw [← hsum, sumN, List.drop_drop]
            · rw [add_ref h _ hh _ _ _ _ _ _ _ _ htu]; rfl
      · try (replace hb := of_decide_eq_false hb)
        refine TWp.exit ?_
        refine hK19 _ _ ?_; try (clear hK19; clear K19)
        refine TWp.sr fun K53 hK53 => ?_
        simp -implicitDefEqProofs (disch := omega) only [seval, go_sem, h2, h5, h8, h9, o0]
        repeat (refine ⟨by omega, ?_⟩)
        refine hK53 _ _ ?_; try (clear hK53; clear K53)
        refine TWp.seq_k fun K54 hK54 => ?_
        refine TWp.sr fun K55 hK55 => ?_
        simp -implicitDefEqProofs (disch := omega) only [seval, go_sem, h2, h5, h8, h9, o0]
        repeat (refine ⟨by omega, ?_⟩)
        refine hK55 _ _ ?_; try (clear hK55; clear K55)
        refine TWp.block ?_
        refine TWp.asRow 26 1 rfl (.inl rfl) ?_
        refine TWp.loop (fun n T S' => ∃ i k, n + i = 8 ∧ T 8 = .sl g8 1 (gD h) ∧ T 27 = .lit (.int .i64 (i : Int)) ∧ T 26 = .sl (.own k) 1 (dB (wordsB (h.take i))) ∧ S'.objs k = .lin ∧ S.n ≤ k ∧ Keep S S') (8) ?_ ?_
        · exact ⟨0, S'.n, rfl, h8, rfl, rfl, push_self _ _, by omega, hkeep.push' _⟩
        rintro n T S' ⟨i, k, hi, h8, h27, h26, o26, b26, hkeep⟩
        have hwl := wordsB_len (h.take i)
        have hil : (h.take i).length = min i h.length := List.length_take
        refine TWp.seq_k fun K56 hK56 => ?_
        refine TWp.sr fun K57 hK57 => ?_
        simp -implicitDefEqProofs (disch := omega) only [seval, go_sem, h8, h26, h27, o26]
        repeat (refine ⟨by omega, ?_⟩)
        refine hK57 _ _ ?_; try (clear hK57; clear K57)
        refine TWp.cond_k fun K58 hK58 => ?_
        simp -implicitDefEqProofs (disch := omega) only [seval, go_sem, h8, h26, h27, o26]
        refine hK58 _ (fun hb => ?_) (fun hb => ?_) <;> clear hK58 <;> clear K58
        · try (replace hb := of_decide_eq_true hb)
          refine TWp.skip ?_
          refine hK56 _ _ ?_; try (clear hK56; clear K56)
          refine TWp.seq_k fun K59 hK59 => ?_
          refine TWp.block ?_
          refine TWp.dk [(0, 0), (1, 0), (2, 0), (3, 0), (4, 0), (5, 0), (6, 0), (7, 0), (8, 0), (9, 0), (10, 0), (11, 0), (12, 0), (13, 0), (14, 0), (15, 0), (16, 0), (17, 0), (18, 0), (19, 0), (20, 0), (21, 0), (22, 0), (23, 0), (24, 1), (25, 2), (26, 0)] follows (by kernel_rfl) fun K60 hK60 => ?_
          simp -implicitDefEqProofs (disch := omega) only [seval, go_sem, h8, h26, h27, o26]
          repeat (refine ⟨by omega, ?_⟩)
          refine hK60 _ _ ?_; try (clear hK60; clear K60)
          refine hK59 _ _ ?_; try (clear hK59; clear K59)
          refine TWp.rk fun K61 hK61 => ?_
          simp -implicitDefEqProofs (disch := omega) only [seval, go_sem, h8, h26, h27, o26]
          repeat (refine ⟨by omega, ?_⟩)
          refine hK61 _ _ ?_; try (clear hK61; clear K61)
          refine ⟨n - 1, by omega, i + 1, S'.n, by omega, h8, rfl, ?_, push_self _ _, hkeep.1, (hkeep.set b26 _).push' _⟩
          rw [wordsB_snoc h i (by omega), dB_app]; rfl
        · try (replace hb := of_decide_eq_false hb)
          refine TWp.exit ?_
          refine hK54 _ _ ?_; try (clear hK54; clear K54)
          refine TWp.sr fun K62 hK62 => ?_
          simp -implicitDefEqProofs (disch := omega) only [seval, go_sem, h8, h26, h27, o26]
          repeat (refine ⟨by omega, ?_⟩)
          refine hK62 _ _ ?_; try (clear hK62; clear K62)
          refine TWp.ret ⟨.inr rfl, [_], ⟨rfl, trivial⟩, ?_⟩
          have hn30 : n3 = 0 := by omega
          subst hn30
          refine ⟨k, ?_, b26, o26, hkeep⟩
          have hh8 : i = 8 := by omega
          have hht : h.take i = h := List.take_of_length_le (by omega)
          rw [sha, ← hPP, ← hsum]; rfl

theorem c_godownref02_Sum {S : TS} {g1 g2 g : Tag} {p : List (BitVec 8)} {K : TV → TS → Prop} (hK : K (.sl (.own S.n) 1 (dB (sha p))) (S.push .lin)) (hp : p.length ≤ 1000000 := by omega) : TCall env 11 [.agg [.sl g1 1 (gD fW), .sl g2 1 (gD kW)], .sl g 1 (dB p)] S K :=
  (c_godownref02_Sum_ok S g1 g2 g p hp).row.mono fun t S' ⟨h1, h2⟩ => by rw [h1, h2]; exact hK

end Go.Proofs.YteafcknljhglkaaDoor
