/-
  What Short does, of the program and of the reference.
-/
import Derived.Test.YteafcknljhglkaaDoorHs
set_option linter.unusedVariables false
set_option linter.unusedSimpArgs false
namespace Go.Proofs.YteafcknljhglkaaDoor
open Go.RowKit TL

def foldAt (s : List (BitVec 8)) : Nat → List (BitVec 8)
  | 0 => List.replicate 20 0
  | i + 1 => (foldAt s i).set (i % 20) ((foldAt s i).getD (i % 20) 0 ^^^ s.getD i 0)
theorem foldAt_len (s : List (BitVec 8)) : ∀ i, (foldAt s i).length = 20
  | 0 => by simp [foldAt]
  | i + 1 => by simp [foldAt, foldAt_len s i]
theorem foldAt_get (s : List (BitVec 8)) : ∀ m, m ≤ 32 → ∀ j, j < 20 → (foldAt s m).getD j 0 = (if j < m then s.getD j 0 else 0) ^^^ (if j + 20 < m then s.getD (j + 20) 0 else 0)
  | 0, _, j, hj => by
    rw [if_neg (by omega), if_neg (by omega), foldAt, List.getD_eq_getElem?_getD, List.getElem?_replicate]
    simp [hj]
  | m + 1, hm, j, hj => by
    have hl := foldAt_len s m
    have ih := foldAt_get s m (by omega)
    simp only [foldAt]
    by_cases hjm : j = m % 20
    · subst hjm
      rw [getD_set_eq' _ _ _ _ (by omega), ih _ hj]
      rcases Nat.lt_or_ge m 20 with h | h
      · have : m % 20 = m := Nat.mod_eq_of_lt h
        rw [this, if_neg (by omega), if_neg (by omega), if_pos (by omega), if_neg (by omega)]
        simp
      · have : m % 20 + 20 = m := by omega
        rw [this, if_pos (by omega), if_neg (by omega), if_pos (by omega), if_pos (by omega)]
        simp
    · rw [getD_set_ne' _ _ _ _ _ hjm, ih _ hj]
      have e1 : (j < m + 1) = (j < m) := by apply propext; omega
      have e2 : (j + 20 < m + 1) = (j + 20 < m) := by apply propext; omega
      simp only [e1, e2]
def fold20 (s : List (BitVec 8)) : List (BitVec 8) := foldAt s 32
def fb (s : List (BitVec 8)) (i : Nat) : BitVec 8 := if i + 20 < 32 then s.getD i 0 ^^^ s.getD (i + 20) 0 else s.getD i 0
def fbs (s : List (BitVec 8)) : Nat → List (BitVec 8)
  | 0 => []
  | i + 1 => fbs s i ++ [fb s i]
theorem fbs_len (s : List (BitVec 8)) : ∀ i, (fbs s i).length = i
  | 0 => rfl
  | i + 1 => by simp [fbs, fbs_len s i]
theorem fbs_get (s : List (BitVec 8)) : ∀ m j, j < m → (fbs s m).getD j 0 = fb s j
  | 0, j, h => by omega
  | m + 1, j, h => by
    have hl := fbs_len s m
    rw [fbs]
    rcases Nat.lt_or_ge j m with h1 | h1
    · rw [← fbs_get s m j h1]; simp [List.getD_eq_getElem?_getD, List.getElem?_append_left (show j < (fbs s m).length by omega)]
    · obtain rfl : j = m := by omega
      simp [List.getD_eq_getElem?_getD, List.getElem?_append_right (show (fbs s j).length ≤ j by omega), hl]
theorem ext_getD {α : Type} {a b : List α} (d : α) (hl : a.length = b.length) (h : ∀ i, i < a.length → a.getD i d = b.getD i d) : a = b := by
  apply List.ext_getElem hl
  intro i h1 h2
  have := h i h1
  simpa [List.getD_eq_getElem?_getD, List.getElem?_eq_getElem h1, List.getElem?_eq_getElem h2] using this
theorem fold20_fbs (s : List (BitVec 8)) : fold20 s = fbs s 20 := by
  refine ext_getD 0 (by rw [fold20, foldAt_len, fbs_len]) fun i hi => ?_
  rw [fold20, foldAt_len] at hi
  rw [fold20, foldAt_get s 32 (by omega) i hi, fbs_get s 20 i hi, fb, if_pos (by omega)]
  by_cases h : i + 20 < 32
  · rw [if_pos h, if_pos h]
  · rw [if_neg h, if_neg h]; simp
theorem fold20_len (s : List (BitVec 8)) : (fold20 s).length = 20 := foldAt_len s 32

set_option maxRecDepth 8000 in
set_option maxHeartbeats 1000000 in
theorem c_hash_Short_ok (S : TS) (g : Tag) (p : List (BitVec 8)) (hp : p.length ≤ 1000000) : TCall env 14 [.sl g 1 (dB p)] S fun r S' => r = .sl .none 1 (dB (fold20 (sha p))) ∧ Keep S S' := by
  have hs := sha_len p
  refine TCall.of 25 [.tmp 2] Tryd.func14 rfl rfl rfl rfl (by kernel_rfl) rfl ?_
  refine TWp.sr fun K0 hK0 => ?_
  simp -implicitDefEqProofs (disch := omega) only [seval, go_sem]
  repeat (refine ⟨by omega, ?_⟩)
  refine hK0 _ _ ?_; try (clear hK0; clear K0)
  refine TWp.sr fun K1 hK1 => ?_
  simp -implicitDefEqProofs (disch := omega) only [seval, go_sem]
  repeat (refine ⟨by omega, ?_⟩)
  refine hK1 _ _ ?_; try (clear hK1; clear K1)
  refine TWp.seq_k fun K2 hK2 => ?_
  refine TWp.sr fun K3 hK3 => ?_
  simp -implicitDefEqProofs (disch := omega) only [seval, go_sem]
  repeat (refine ⟨by omega, ?_⟩)
  refine c_hash_Sum ?_
  simp -implicitDefEqProofs (disch := omega) only [seval, go_sem]
  repeat (refine ⟨by omega, ?_⟩)
  refine hK3 _ _ ?_; try (clear hK3; clear K3)
  refine TWp.block ?_
  refine TWp.loop (fun n T S' => ∃ i, n + i = 32 ∧ T 3 = .vs S.n 0 1 20 ∧ T 8 = .sl (.own (S.n + 1)) 1 (dB (sha p)) ∧ T 9 = .lit (.int .i64 (32 : Int)) ∧ T 10 = .lit (.int .i64 (i : Int)) ∧ S' = ((S.push (.cells 5 (cellsD (dB (foldAt (sha p) i))))).push .lin)) (32) ?_ ?_
  · exact ⟨0, rfl, rfl, rfl, by simp [upd, hs], rfl, rfl⟩
  rintro n T S' ⟨i, hi, h3, h8, h9, h10, rfl⟩
  have hfl := foldAt_len (sha p) i
  refine TWp.sr fun K4 hK4 => ?_
  simp -implicitDefEqProofs (disch := omega) only [seval, go_sem, h3, h8, h9, h10]
  repeat (refine ⟨by omega, ?_⟩)
  refine hK4 _ _ ?_; try (clear hK4; clear K4)
  refine TWp.seq_k fun K5 hK5 => ?_
  refine TWp.cond_k fun K6 hK6 => ?_
  simp -implicitDefEqProofs (disch := omega) only [seval, go_sem, h3, h8, h9, h10]
  refine hK6 _ (fun hb => ?_) (fun hb => ?_) <;> clear hK6 <;> clear K6
  · try (replace hb := of_decide_eq_true hb)
    refine TWp.skip ?_
    refine hK5 _ _ ?_; try (clear hK5; clear K5)
    refine TWp.seq_k fun K7 hK7 => ?_
    refine TWp.block ?_
    refine TWp.sr fun K8 hK8 => ?_
    simp -implicitDefEqProofs (disch := omega) only [seval, go_sem, h3, h8, h9, h10]
    repeat (refine ⟨by omega, ?_⟩)
    refine hK8 _ _ ?_; try (clear hK8; clear K8)
    refine TWp.rk fun K9 hK9 => ?_
    simp -implicitDefEqProofs (disch := omega) only [seval, go_sem, h3, h8, h9, h10]
    repeat (refine ⟨by omega, ?_⟩)
    refine hK9 _ _ ?_; try (clear hK9; clear K9)
    refine hK7 _ _ ?_; try (clear hK7; clear K7)
    refine TWp.rk fun K10 hK10 => ?_
    simp -implicitDefEqProofs (disch := omega) only [seval, go_sem, h3, h8, h9, h10]
    repeat (refine ⟨by omega, ?_⟩)
    refine hK10 _ _ ?_; try (clear hK10; clear K10)
    refine ⟨n - 1, by omega, i + 1, by omega, h3, h8, h9, rfl, ?_⟩
    rfl
  · try (replace hb := of_decide_eq_false hb)
    refine TWp.exit ?_
    refine hK2 _ _ ?_; try (clear hK2; clear K2)
    refine TWp.freeze 3 (ag := false) (ds := dB (foldAt (sha p) i)) h3 ?_ ?_
    · have hfl := foldAt_len (sha p) i
      simp -implicitDefEqProofs (disch := omega) only [seval, go_sem, hfl]
    refine TWp.sr fun K11 hK11 => ?_
    simp -implicitDefEqProofs (disch := omega) only [seval, go_sem, h3, h8, h9, h10]
    repeat (refine ⟨by omega, ?_⟩)
    refine hK11 _ _ ?_; try (clear hK11; clear K11)
    refine TWp.ret ⟨.inr rfl, [_], ⟨rfl, trivial⟩, ?_⟩
    have hi32 : i = 32 := by omega
    subst hi32
    refine ⟨rfl, ?_⟩
    exact (Keep.push S _).push' _

theorem ren_slN (n : Nat) (L : List Nat) (s : Nat) (xs : List D) : Ren n L (.sl .none s xs) (.sl .none s xs) := .slN .none s xs
theorem c_hash_Short {S : TS} {g : Tag} {p : List (BitVec 8)} {K : TV → TS → Prop} (hK : K (.sl .none 1 (dB (fold20 (sha p)))) S) (hp : p.length ≤ 1000000 := by omega) : TCall env 14 [.sl g 1 (dB p)] S K :=
  (TCall.pure (c_hash_Short_ok S g p hp) (ren_slN _ _ _ _)).mono fun t S' ⟨h1, h2⟩ => by rw [h1, h2]; exact hK

set_option maxRecDepth 8000 in
set_option maxHeartbeats 1000000 in
theorem c_godownref02_Short_ok (S : TS) (g1 g2 g : Tag) (p : List (BitVec 8)) (hp : p.length ≤ 1000000) : TCall env 15 [.agg [.sl g1 1 (gD fW), .sl g2 1 (gD kW)], .sl g 1 (dB p)] S fun r S' => ∃ k, r = .sl (.own k) 1 (dB (fold20 (sha p))) ∧ S.n ≤ k ∧ S'.objs k = .lin ∧ Keep S S' := by
  have hs := sha_len p
  refine TCall.of 35 [.tmp 4] Tryd.func15 rfl rfl rfl rfl (by kernel_rfl) rfl ?_
  refine TWp.sr fun K0 hK0 => ?_
  simp -implicitDefEqProofs (disch := omega) only [seval, go_sem]
  repeat (refine ⟨by omega, ?_⟩)
  refine hK0 _ _ ?_; try (clear hK0; clear K0)
  refine TWp.sr fun K1 hK1 => ?_
  simp -implicitDefEqProofs (disch := omega) only [seval, go_sem]
  repeat (refine ⟨by omega, ?_⟩)
  refine c_godownref02_Sum ?_
  simp -implicitDefEqProofs (disch := omega) only [seval, go_sem]
  repeat (refine ⟨by omega, ?_⟩)
  refine hK1 _ _ ?_; try (clear hK1; clear K1)
  refine TWp.sr fun K2 hK2 => ?_
  simp -implicitDefEqProofs (disch := omega) only [seval, go_sem]
  repeat (refine ⟨by omega, ?_⟩)
  refine hK2 _ _ ?_; try (clear hK2; clear K2)
  refine TWp.seq_k fun K3 hK3 => ?_
  refine TWp.sr fun K4 hK4 => ?_
  simp -implicitDefEqProofs (disch := omega) only [seval, go_sem]
  repeat (refine ⟨by omega, ?_⟩)
  refine hK4 _ _ ?_; try (clear hK4; clear K4)
  refine TWp.block ?_
  refine TWp.asRow 6 1 rfl (.inl rfl) ?_
  refine TWp.loop (fun n T S' => ∃ i k gs, n + i = 20 ∧ T 5 = .sl gs 1 (dB (sha p)) ∧ T 7 = .lit (.int .i64 (i : Int)) ∧ T 6 = .sl (.own k) 1 (dB (fbs (sha p) i)) ∧ S.n ≤ k ∧ S'.objs k = .lin ∧ Keep S S') (20) ?_ ?_
  · exact ⟨0, S.n + 1 + 1, _, rfl, rfl, rfl, rfl, by omega, push_self _ _, ((Keep.push S _).push' _).push' _⟩
  rintro n T S' ⟨i, k, gs, hi, h5, h7, h6, hk, o6, hkeep⟩
  have hfl := fbs_len (sha p) i
  refine TWp.seq_k fun K5 hK5 => ?_
  refine TWp.sr fun K6 hK6 => ?_
  simp -implicitDefEqProofs (disch := omega) only [seval, go_sem, h5, h7, h6, o6]
  repeat (refine ⟨by omega, ?_⟩)
  refine hK6 _ _ ?_; try (clear hK6; clear K6)
  refine TWp.cond_k fun K7 hK7 => ?_
  simp -implicitDefEqProofs (disch := omega) only [seval, go_sem, h5, h7, h6, o6]
  refine hK7 _ (fun hb => ?_) (fun hb => ?_) <;> clear hK7 <;> clear K7
  · try (replace hb := of_decide_eq_true hb)
    refine TWp.skip ?_
    refine hK5 _ _ ?_; try (clear hK5; clear K5)
    refine TWp.seq_k fun K8 hK8 => ?_
    refine TWp.block ?_
    refine TWp.sr fun K9 hK9 => ?_
    simp -implicitDefEqProofs (disch := omega) only [seval, go_sem, h5, h7, h6, o6]
    repeat (refine ⟨by omega, ?_⟩)
    refine hK9 _ _ ?_; try (clear hK9; clear K9)
    refine TWp.seq_k fun K10 hK10 => ?_
    refine TWp.sr fun K11 hK11 => ?_
    simp -implicitDefEqProofs (disch := omega) only [seval, go_sem, h5, h7, h6, o6]
    repeat (refine ⟨by omega, ?_⟩)
    refine hK11 _ _ ?_; try (clear hK11; clear K11)
    refine TWp.cond_k fun K12 hK12 => ?_
    simp -implicitDefEqProofs (disch := omega) only [seval, go_sem, h5, h7, h6, o6]
    refine hK12 _ (fun hb => ?_) (fun hb => ?_) <;> clear hK12 <;> clear K12
    · try (replace hb := of_decide_eq_true hb)
      refine TWp.rk fun K13 hK13 => ?_
      simp -implicitDefEqProofs (disch := omega) only [seval, go_sem, h5, h7, h6, o6]
      repeat (refine ⟨by omega, ?_⟩)
      refine hK13 _ _ ?_; try (clear hK13; clear K13)
      refine hK10 _ _ ?_; try (clear hK10; clear K10)
      refine TWp.rk fun K14 hK14 => ?_
      simp -implicitDefEqProofs (disch := omega) only [seval, go_sem, h5, h7, h6, o6]
      repeat (refine ⟨by omega, ?_⟩)
      refine hK14 _ _ ?_; try (clear hK14; clear K14)
      refine hK8 _ _ ?_; try (clear hK8; clear K8)
      refine TWp.rk fun K15 hK15 => ?_
      simp -implicitDefEqProofs (disch := omega) only [seval, go_sem, h5, h7, h6, o6]
      repeat (refine ⟨by omega, ?_⟩)
      refine hK15 _ _ ?_; try (clear hK15; clear K15)
      refine ⟨n - 1, by omega, i + 1, S'.n, gs, by omega, h5, rfl, ?_, hkeep.1, push_self _ _, (hkeep.set hk _).push' _⟩
      show TV.sl _ _ _ = _
      rw [fbs, dB_app, fb, if_pos (by omega)]; rfl
    · try (replace hb := of_decide_eq_false hb)
      refine TWp.skip ?_
      refine hK10 _ _ ?_; try (clear hK10; clear K10)
      refine TWp.rk fun K16 hK16 => ?_
      simp -implicitDefEqProofs (disch := omega) only [seval, go_sem, h5, h7, h6, o6]
      repeat (refine ⟨by omega, ?_⟩)
      refine hK16 _ _ ?_; try (clear hK16; clear K16)
      refine hK8 _ _ ?_; try (clear hK8; clear K8)
      refine TWp.rk fun K17 hK17 => ?_
      simp -implicitDefEqProofs (disch := omega) only [seval, go_sem, h5, h7, h6, o6]
      repeat (refine ⟨by omega, ?_⟩)
      refine hK17 _ _ ?_; try (clear hK17; clear K17)
      refine ⟨n - 1, by omega, i + 1, S'.n, gs, by omega, h5, rfl, ?_, hkeep.1, push_self _ _, (hkeep.set hk _).push' _⟩
      show TV.sl _ _ _ = _
      rw [fbs, dB_app, fb, if_neg (by omega)]; rfl
  · try (replace hb := of_decide_eq_false hb)
    refine TWp.exit ?_
    refine hK3 _ _ ?_; try (clear hK3; clear K3)
    refine TWp.sr fun K18 hK18 => ?_
    simp -implicitDefEqProofs (disch := omega) only [seval, go_sem, h5, h7, h6, o6]
    repeat (refine ⟨by omega, ?_⟩)
    refine hK18 _ _ ?_; try (clear hK18; clear K18)
    refine TWp.ret ⟨.inr rfl, [_], ⟨rfl, trivial⟩, ?_⟩
    have hi20 : i = 20 := by omega
    subst hi20
    exact ⟨k, by rw [fold20_fbs]; rfl, hk, o6, hkeep⟩

theorem c_godownref02_Short {S : TS} {g1 g2 g : Tag} {p : List (BitVec 8)} {K : TV → TS → Prop} (hK : K (.sl (.own S.n) 1 (dB (fold20 (sha p)))) (S.push .lin)) (hp : p.length ≤ 1000000 := by omega) : TCall env 15 [.agg [.sl g1 1 (gD fW), .sl g2 1 (gD kW)], .sl g 1 (dB p)] S K :=
  (c_godownref02_Short_ok S g1 g2 g p hp).row.mono fun t S' ⟨h1, h2⟩ => by rw [h1, h2]; exact hK

end Go.Proofs.YteafcknljhglkaaDoor
