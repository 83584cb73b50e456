/-
  What the reference's functions do that make the tables: primes, and the tables.
-/
import Derived.Test.YteafcknljhglkaaDoorHf
set_option linter.unusedVariables false
set_option linter.unusedSimpArgs false
namespace Go.Proofs.YteafcknljhglkaaDoor
open Go.RowKit TL

def primeL : List Nat := [2, 3, 5, 7, 11, 13, 17, 19, 23, 29, 31, 37, 41, 43, 47, 53, 59, 61, 67, 71, 73, 79, 83, 89, 97, 101, 103, 107, 109, 113, 127, 131, 137, 139, 149, 151, 157, 163, 167, 173, 179, 181, 191, 193, 197, 199, 211, 223, 227, 229, 233, 239, 241, 251, 257, 263, 269, 271, 277, 281, 283, 293, 307, 311]
def primeB : List (BitVec 64) := primeL.map (BitVec.ofNat 64)
def cnt (k : Nat) : Nat := (primeL.filter fun y => decide (y < k + 2)).length
def pr (k : Nat) : List (BitVec 64) := primeB.take (cnt k)
def isT (x : BitVec 64) (l : List (BitVec 64)) : Bool := l.all fun y => decide (¬ ((x % y).toNat : Int) = 0)
theorem pr_step : ∀ k, k < 310 → pr (k + 1) = if isT (BitVec.ofNat 64 (k + 2)) (pr k) = true then pr k ++ [BitVec.ofNat 64 (k + 2)] else pr k := by decide +kernel
theorem pr_len : ∀ k, k < 310 → (pr k).length < 64 := by decide +kernel
theorem pr_all : pr 310 = primeB := by decide +kernel
theorem prB_pos : ∀ i, i < 64 → 0 < (primeB.getD i 0).toNat := by decide +kernel
theorem primeB_len : primeB.length = 64 := rfl
theorem pr_get (k i : Nat) (hi : i < (pr k).length) : (pr k).getD i 0 = primeB.getD i 0 := by
  unfold pr at hi ⊢
  rw [List.length_take] at hi
  simp only [List.getD_eq_getElem?_getD]
  rw [List.getElem?_take_of_lt (by omega)]
theorem pr_pos (k i : Nat) : i < (pr k).length → 0 < ((pr k).getD i 0#64).toNat := by
  intro hi
  have h1 := pr_get k i hi
  have h2 : (pr k).length ≤ 64 := by unfold pr; rw [List.length_take, primeB_len]; omega
  have h3 := prB_pos i (by omega)
  rw [show (0#64) = (0 : BitVec 64) from rfl, h1]; exact h3
theorem pr_lt (k : Nat) : k ≤ 310 → (pr k).length < 64 → k < 310 := by
  intro h1 h2
  rcases Nat.lt_or_ge k 310 with h | h
  · exact h
  · have : k = 310 := by omega
    subst this
    rw [pr_all] at h2
    exact absurd h2 (by decide)
theorem x_succ (k : Nat) : BitVec.ofNat 64 (k + 2) + 1#64 = BitVec.ofNat 64 (k + 1 + 2) := by
  apply BitVec.eq_of_toNat_eq; simp
theorem isT_snoc (x y : BitVec 64) (l : List (BitVec 64)) : isT x (l ++ [y]) = (isT x l && decide (¬ ((x % y).toNat : Int) = 0)) := by simp [isT]

set_option maxRecDepth 8000 in
theorem c_godownref02_primes_ok (S : TS) : TCall env 22 [.lit (.int .i64 64)] S fun r S' => ∃ t, r = .sl (.own t) 1 (dQ primeB) ∧ S.n ≤ t ∧ S'.objs t = .lin ∧ Keep S S' := by
  refine TCall.of 35 [.tmp 2] Tryd.func22 rfl rfl rfl rfl (by kernel_rfl) rfl ?_
  refine TWp.sr fun K0 hK0 => ?_
  simp (disch := omega) only [seval, go_sem]
  repeat (refine ⟨by omega, ?_⟩)
  refine hK0 _ _ ?_; try (clear hK0; clear K0)
  refine TWp.sr fun K1 hK1 => ?_
  simp (disch := omega) only [seval, go_sem]
  repeat (refine ⟨by omega, ?_⟩)
  refine hK1 _ _ ?_; try (clear hK1; clear K1)
  refine TWp.seq_k fun K2 hK2 => ?_
  refine TWp.sr fun K3 hK3 => ?_
  simp (disch := omega) only [seval, go_sem]
  repeat (refine ⟨by omega, ?_⟩)
  refine hK3 _ _ ?_; try (clear hK3; clear K3)
  refine TWp.block ?_
  refine TWp.asRow 3 1 rfl (.inl rfl) ?_
  refine TWp.loop (fun n T S' => ∃ k t, n + k = 310 ∧ T 0 = .lit (.int .i64 64) ∧ T 3 = .sl (.own t) 1 (dQ (pr k)) ∧ T 4 = .lit (w64 (BitVec.ofNat 64 (k + 2))) ∧ S'.objs t = .lin ∧ S.n ≤ t ∧ Keep S S') (310) ?_ ?_
  · exact ⟨0, _, rfl, rfl, rfl, rfl, push_self _ _, Nat.le_refl _, Keep.push S _⟩
  rintro n1 T S1 ⟨k, t, hn, h0, h3, h4, ho, ht, hkeep⟩
  refine TWp.seq_k fun K4 hK4 => ?_
  refine TWp.sr fun K5 hK5 => ?_
  simp (disch := omega) only [seval, go_sem, h0, h3, h4, ho]
  repeat (refine ⟨by omega, ?_⟩)
  refine hK5 _ _ ?_; try (clear hK5; clear K5)
  refine TWp.cond rfl (fun hb => ?_) (fun hb => ?_)
  · try (replace hb := of_decide_eq_true hb)
    refine TWp.skip ?_
    refine hK4 _ _ ?_; try (clear hK4; clear K4)
    refine TWp.seq_k fun K6 hK6 => ?_
    refine TWp.block ?_
    refine TWp.sr fun K7 hK7 => ?_
    simp (disch := omega) only [seval, go_sem, h0, h3, h4, ho]
    repeat (refine ⟨by omega, ?_⟩)
    refine hK7 _ _ ?_; try (clear hK7; clear K7)
    refine TWp.seq_k fun K8 hK8 => ?_
    refine TWp.sr fun K9 hK9 => ?_
    simp (disch := omega) only [seval, go_sem, h0, h3, h4, ho]
    repeat (refine ⟨by omega, ?_⟩)
    refine hK9 _ _ ?_; try (clear hK9; clear K9)
    refine TWp.block ?_
    refine TWp.loop (fun n T S' => ∃ i, n + i = (pr k).length ∧ T 0 = .lit (.int .i64 64) ∧ T 3 = .sl (.own t) 1 (dQ (pr k)) ∧ T 4 = .lit (w64 (BitVec.ofNat 64 (k + 2))) ∧ T 5 = .lit (.bool (isT (BitVec.ofNat 64 (k + 2)) ((pr k).take i))) ∧ T 6 = .lit (.int .i64 (i : Int)) ∧ S' = S1) ((pr k).length) ?_ ?_
    · exact ⟨0, rfl, h0, h3, h4, rfl, rfl, rfl⟩
    rintro n T S' ⟨i, hi, h0, h3, h4, h5, h6, rfl⟩
    have hp := pr_pos k i
    have hkl := pr_lt k (by omega) (by omega)
    refine TWp.seq_k fun K10 hK10 => ?_
    refine TWp.sr fun K11 hK11 => ?_
    simp (disch := omega) only [seval, go_sem, h0, h3, h4, h5, h6, ho]
    repeat (refine ⟨by omega, ?_⟩)
    refine hK11 _ _ ?_; try (clear hK11; clear K11)
    refine TWp.cond rfl (fun hb => ?_) (fun hb => ?_)
    · try (replace hb := of_decide_eq_true hb)
      refine TWp.skip ?_
      refine hK10 _ _ ?_; try (clear hK10; clear K10)
      refine TWp.seq_k fun K12 hK12 => ?_
      refine TWp.block ?_
      refine TWp.rk fun K13 hK13 => ?_
      simp (disch := omega) only [seval, go_sem, h0, h3, h4, h5, h6, ho]
      repeat' (first | refine ⟨by omega, ?_⟩ | (refine brT_split (fun hb => ?_) (fun hb => ?_) <;> simp (disch := omega) only [seval, go_sem, hb, h0, h3, h4, h5, h6, ho]))
      all_goals
        refine hK13 _ _ ?_; try (clear hK13; clear K13)
        refine hK12 _ _ ?_; try (clear hK12; clear K12)
        refine TWp.rk fun K14 hK14 => ?_
        simp (disch := omega) only [seval, go_sem, h0, h3, h4, h5, h6, ho]
        repeat (refine ⟨by omega, ?_⟩)
        refine hK14 _ _ ?_; try (clear hK14; clear K14)
        have hi' : i < (pr k).length := by omega
        refine ⟨n - 1, by omega, i + 1, by omega, h0, h3, h4, ?_, rfl, rfl⟩
        rw [take_succ_getD 0#64 hi', isT_snoc]
        first
          | (rw [hb, Bool.true_and]; rfl)
          | (rw [hb, Bool.false_and]; rfl)
    · try (replace hb := of_decide_eq_false hb)
      refine TWp.exit ?_
      refine hK8 _ _ ?_; try (clear hK8; clear K8)
      refine TWp.sr fun K15 hK15 => ?_
      simp (disch := omega) only [seval, go_sem, h0, h3, h4, h5, h6, ho]
      repeat (refine ⟨by omega, ?_⟩)
      refine hK15 _ _ ?_; try (clear hK15; clear K15)
      refine TWp.cond rfl (fun hb => ?_) (fun hb => ?_)
      · try (replace hb := of_decide_eq_true hb)
        refine TWp.rk fun K16 hK16 => ?_
        simp (disch := omega) only [seval, go_sem, h0, h3, h4, h5, h6, ho]
        repeat (refine ⟨by omega, ?_⟩)
        refine hK16 _ _ ?_; try (clear hK16; clear K16)
        refine hK6 _ _ ?_; try (clear hK6; clear K6)
        refine TWp.rk fun K17 hK17 => ?_
        simp (disch := omega) only [seval, go_sem, h0, h3, h4, h5, h6, ho]
        repeat (refine ⟨by omega, ?_⟩)
        refine hK17 _ _ ?_; try (clear hK17; clear K17)
        obtain rfl : i = (pr k).length := by omega
        have hbb : isT (BitVec.ofNat 64 (k + 2)) (pr k) = true := ‹isT (BitVec.ofNat 64 (k + 2)) (pr k) = true›
        refine ⟨n1 - 1, by omega, k + 1, _, by omega, h0, ?_, ?_, push_self _ _, hkeep.1, (hkeep.set ht _).push' _⟩
        · rw [pr_step k hkl, if_pos hbb, dQ_app]; rfl
        · show TV.lit (w64 (_ + 1#64)) = _
          rw [x_succ]
      · try (replace hb := of_decide_eq_false hb)
        refine TWp.skip ?_
        refine hK6 _ _ ?_; try (clear hK6; clear K6)
        refine TWp.rk fun K18 hK18 => ?_
        simp (disch := omega) only [seval, go_sem, h0, h3, h4, h5, h6, ho]
        repeat (refine ⟨by omega, ?_⟩)
        refine hK18 _ _ ?_; try (clear hK18; clear K18)
        obtain rfl : i = (pr k).length := by omega
        have hbb : isT (BitVec.ofNat 64 (k + 2)) (pr k) = false := ‹isT (BitVec.ofNat 64 (k + 2)) (pr k) = false›
        refine ⟨n1 - 1, by omega, k + 1, t, by omega, h0, ?_, ?_, ho, ht, hkeep⟩
        · rw [pr_step k hkl, if_neg (by rw [hbb]; exact Bool.false_ne_true)]; exact h3
        · show TV.lit (w64 (_ + 1#64)) = _
          rw [x_succ]
  · try (replace hb := of_decide_eq_false hb)
    refine TWp.exit ?_
    refine hK2 _ _ ?_; try (clear hK2; clear K2)
    refine TWp.sr fun K19 hK19 => ?_
    simp (disch := omega) only [seval, go_sem, h0, h3, h4, ho]
    repeat (refine ⟨by omega, ?_⟩)
    refine hK19 _ _ ?_; try (clear hK19; clear K19)
    have hk : k = 310 := by
      have := pr_len k
      omega
    subst hk
    exact TWp.ret ⟨.inr rfl, [_], ⟨rfl, trivial⟩, t, by rw [← pr_all]; rfl, ht, ho, hkeep⟩

theorem c_godownref02_primes {S : TS} {K : TV → TS → Prop} (hK : K (.sl (.own S.n) 1 (dQ primeB)) (S.push .lin)) : TCall env 22 [.lit (.int .i64 64)] S K :=
  (c_godownref02_primes_ok S).row.mono fun t S' ⟨h1, h2⟩ => by rw [h1, h2]; exact hK

theorem tab_snoc (f : BitVec 64 → BitVec 32) (l : List (BitVec 64)) (i : Nat) (h : i < l.length) : gD ((l.take (i + 1)).map f) = gD ((l.take i).map f) ++ [.lit (w32 (f (l.getD i 0#64)))] := by
  rw [take_succ_getD 0#64 h, List.map_append, gD_app]; rfl
theorem take8_get (i : Nat) (h : i < 8) : (primeB.take 8).getD i 0#64 = primeB.getD i 0#64 := by
  simp only [List.getD_eq_getElem?_getD]
  rw [List.getElem?_take_of_lt h]
theorem p8_len : (primeB.take 8).length = 8 := rfl
attribute [irreducible] primeB
def tabH : List (BitVec 32) := (primeB.take 8).map (rootF squareF)
def tabK : List (BitVec 32) := primeB.map (rootF cubeF)
set_option maxRecDepth 8000 in
theorem c_godownref02_Tables_ok (S : TS) : TCall env 19 [] S fun r S' => ∃ t1 t2, r = .tup [.sl (.own t1) 1 (gD tabH), .sl (.own t2) 1 (gD tabK)] ∧ S.n ≤ t1 ∧ S.n ≤ t2 ∧ t1 ≠ t2 ∧ S'.objs t1 = .lin ∧ S'.objs t2 = .lin ∧ Keep S S' := by
  have hpl := primeB_len
  have h8l := p8_len
  refine TCall.of 31 [.tmp 0, .tmp 1] Tryd.func19 rfl rfl rfl rfl (by kernel_rfl) rfl ?_
  refine TWp.sr fun K0 hK0 => ?_
  simp (disch := omega) only [seval, go_sem]
  repeat (refine ⟨by omega, ?_⟩)
  refine hK0 _ _ ?_; try (clear hK0; clear K0)
  refine TWp.sr fun K1 hK1 => ?_
  simp (disch := omega) only [seval, go_sem]
  repeat (refine ⟨by omega, ?_⟩)
  refine c_godownref02_primes ?_
  simp (disch := omega) only [seval, go_sem]
  repeat (refine ⟨by omega, ?_⟩)
  refine hK1 _ _ ?_; try (clear hK1; clear K1)
  refine TWp.sr fun K2 hK2 => ?_
  simp (disch := omega) only [seval, go_sem]
  repeat (refine ⟨by omega, ?_⟩)
  refine hK2 _ _ ?_; try (clear hK2; clear K2)
  refine TWp.seq_k fun K3 hK3 => ?_
  refine TWp.sr fun K4 hK4 => ?_
  simp (disch := omega) only [seval, go_sem]
  repeat (refine ⟨by omega, ?_⟩)
  refine hK4 _ _ ?_; try (clear hK4; clear K4)
  refine TWp.block ?_
  refine TWp.asRow 3 1 rfl (.inl rfl) ?_
  refine TWp.asRow 4 1 rfl (.inl rfl) ?_
  refine TWp.loop (fun n T S' => ∃ i t1 t2 g, n + i = 64 ∧ T 2 = .sl g 1 (dQ primeB) ∧ T 3 = .sl (.own t1) 1 (gD (((primeB.take 8).take i).map (rootF squareF))) ∧ T 4 = .sl (.own t2) 1 (gD ((primeB.take i).map (rootF cubeF))) ∧ T 5 = .lit (.int .i64 (i : Int)) ∧ S.n ≤ t1 ∧ S.n ≤ t2 ∧ t1 ≠ t2 ∧ S'.objs t1 = .lin ∧ S'.objs t2 = .lin ∧ Keep S S' ∧ t1 < S'.n ∧ t2 < S'.n) (64) ?_ ?_
  · refine ⟨0, _, _, _, rfl, rfl, rfl, rfl, rfl, ?_, ?_, ?_, ?_, push_self _ _, ?_, ?_, ?_⟩
    all_goals first | exact ((Keep.push S _).push' _).push' _ | (simp only [TS.push_n]; omega) | (simp (disch := omega) only [seval, go_sem])
  rintro n T S' ⟨i, t1, t2, g, hn, h2, h3, h4, h5, g1, g2, g3, o1, o2, hkeep, b1, b2⟩
  have hl1 : (((primeB.take 8).take i).map (rootF squareF)).length ≤ 8 := by simp; omega
  have hl2 : ((primeB.take i).map (rootF cubeF)).length ≤ 64 := by simp; omega
  refine TWp.seq_k fun K5 hK5 => ?_
  refine TWp.sr fun K6 hK6 => ?_
  simp (disch := omega) only [seval, go_sem, h2, h3, h4, h5, o1, o2]
  repeat (refine ⟨by omega, ?_⟩)
  refine hK6 _ _ ?_; try (clear hK6; clear K6)
  refine TWp.cond rfl (fun hb => ?_) (fun hb => ?_)
  · try (replace hb := of_decide_eq_true hb)
    refine TWp.skip ?_
    refine hK5 _ _ ?_; try (clear hK5; clear K5)
    refine TWp.seq_k fun K7 hK7 => ?_
    refine TWp.block ?_
    refine TWp.seq_k fun K8 hK8 => ?_
    refine TWp.sr fun K9 hK9 => ?_
    simp (disch := omega) only [seval, go_sem, h2, h3, h4, h5, o1, o2]
    repeat (refine ⟨by omega, ?_⟩)
    refine hK9 _ _ ?_; try (clear hK9; clear K9)
    refine TWp.cond rfl (fun hb => ?_) (fun hb => ?_)
    · try (replace hb := of_decide_eq_true hb)
      refine TWp.rk fun K10 hK10 => ?_
      simp (disch := omega) only [seval, go_sem, h2, h3, h4, h5, o1, o2]
      repeat (refine ⟨by omega, ?_⟩)
      refine c_godownref02_root_square ?_
      simp (disch := omega) only [seval, go_sem, h2, h3, h4, h5, o1, o2]
      repeat (refine ⟨by omega, ?_⟩)
      refine hK10 _ _ ?_; try (clear hK10; clear K10)
      refine hK8 _ _ ?_; try (clear hK8; clear K8)
      refine TWp.rk fun K11 hK11 => ?_
      simp (disch := omega) only [seval, go_sem, h2, h3, h4, h5, o1, o2]
      repeat (refine ⟨by omega, ?_⟩)
      refine c_godownref02_root_cube ?_
      simp (disch := omega) only [seval, go_sem, h2, h3, h4, h5, o1, o2]
      repeat (refine ⟨by omega, ?_⟩)
      refine hK11 _ _ ?_; try (clear hK11; clear K11)
      refine hK7 _ _ ?_; try (clear hK7; clear K7)
      refine TWp.rk fun K12 hK12 => ?_
      simp (disch := omega) only [seval, go_sem, h2, h3, h4, h5, o1, o2]
      repeat (refine ⟨by omega, ?_⟩)
      refine hK12 _ _ ?_; try (clear hK12; clear K12)
      refine ⟨n - 1, by omega, i + 1, S'.n, S'.n + 1, g, by omega, h2, ?_, ?_, rfl, ?_, ?_, ?_, ?_, push_self _ _, ((((hkeep.set g1 _).set g2 _).push' _).push' _), ?_, ?_⟩
      all_goals first
        | ((try simp only [TS.push_n, TS.set_n]); have := hkeep.1; omega)
        | (simp (disch := omega) only [seval, go_sem]; done)
        | exact congrArg (TV.sl _ 1) (by rw [tab_snoc _ _ _ (by omega), take8_get i (by omega)])
        | exact congrArg (TV.sl _ 1) (tab_snoc _ _ _ (by omega)).symm
    · try (replace hb := of_decide_eq_false hb)
      refine TWp.skip ?_
      refine hK8 _ _ ?_; try (clear hK8; clear K8)
      refine TWp.rk fun K13 hK13 => ?_
      simp (disch := omega) only [seval, go_sem, h2, h3, h4, h5, o1, o2]
      repeat (refine ⟨by omega, ?_⟩)
      refine c_godownref02_root_cube ?_
      simp (disch := omega) only [seval, go_sem, h2, h3, h4, h5, o1, o2]
      repeat (refine ⟨by omega, ?_⟩)
      refine hK13 _ _ ?_; try (clear hK13; clear K13)
      refine hK7 _ _ ?_; try (clear hK7; clear K7)
      refine TWp.rk fun K14 hK14 => ?_
      simp (disch := omega) only [seval, go_sem, h2, h3, h4, h5, o1, o2]
      repeat (refine ⟨by omega, ?_⟩)
      refine hK14 _ _ ?_; try (clear hK14; clear K14)
      refine ⟨n - 1, by omega, i + 1, t1, S'.n, g, by omega, h2, ?_, ?_, rfl, ?_, ?_, ?_, ?_, push_self _ _, ((hkeep.set g2 _).push' _), ?_, ?_⟩
      all_goals first
        | ((try simp only [TS.push_n, TS.set_n]); have := hkeep.1; omega)
        | (simp (disch := omega) only [seval, go_sem, o1]; done)
        | exact congrArg (TV.sl _ 1) (tab_snoc _ _ _ (by omega)).symm
        | exact h3.trans (by rw [List.take_of_length_le (i := i) (by omega), List.take_of_length_le (i := i + 1) (by omega)])
  · try (replace hb := of_decide_eq_false hb)
    refine TWp.exit ?_
    refine hK3 _ _ ?_; try (clear hK3; clear K3)
    refine TWp.sr fun K15 hK15 => ?_
    simp (disch := omega) only [seval, go_sem, h2, h3, h4, h5, o1, o2]
    repeat (refine ⟨by omega, ?_⟩)
    refine hK15 _ _ ?_; try (clear hK15; clear K15)
    obtain rfl : i = 64 := by omega
    refine TWp.ret ⟨.inr rfl, [_, _], ⟨rfl, rfl, trivial⟩, t1, t2, ?_, g1, g2, g3, o1, o2, hkeep⟩
    show TV.tup [.sl (.own t1) 1 _, .sl (.own t2) 1 _] = _
    rw [tabH, tabK, List.take_of_length_le (i := 64) (by omega)]

end Go.Proofs.YteafcknljhglkaaDoor
