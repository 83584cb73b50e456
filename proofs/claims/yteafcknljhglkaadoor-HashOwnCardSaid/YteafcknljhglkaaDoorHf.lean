/-
  What the reference's functions do that make the tables: wide, square, cube, root.
-/
import Derived.Test.YteafcknljhglkaaDoorHe
set_option linter.unusedVariables false
set_option linter.unusedSimpArgs false
namespace Go.Proofs.YteafcknljhglkaaDoor
open Go.RowKit TL

def wideH (a b : BitVec 64) : BitVec 64 :=
  let mid := (a >>> 32) * (b % 4294967296#64) + ((a % 4294967296#64) * (b % 4294967296#64)) >>> 32
  (a >>> 32) * (b >>> 32) + mid >>> 32 + (mid % 4294967296#64 + (a % 4294967296#64) * (b >>> 32)) >>> 32
def ltI (a b : BitVec 64) : Bool := decide ((a.toNat : Int) < (b.toNat : Int))
def eqI (a b : BitVec 64) : Bool := decide ((a.toNat : Int) = (b.toNat : Int))
def zI (a : BitVec 64) : Bool := decide ((a.toNat : Int) = 0)
set_option maxRecDepth 8000 in
theorem c_godownref02_wide_ok (S : TS) (a b : BitVec 64) : TCall env 26 [.lit (w64 a), .lit (w64 b)] S fun r S' => r = .tup [.lit (w64 (wideH a b)), .lit (w64 (a * b))] ∧ S' = S := by
  refine TCall.of 46 [.tmp 4, .tmp 5] Tryd.func26 rfl rfl rfl rfl (by kernel_rfl) rfl ?_
  refine TWp.sr fun K0 hK0 => ?_
  simp (disch := omega) only [seval, go_sem]
  repeat (refine ⟨by omega, ?_⟩)
  refine hK0 _ _ ?_; try (clear hK0; clear K0)
  refine TWp.sr fun K1 hK1 => ?_
  simp (disch := omega) only [seval, go_sem]
  repeat (refine ⟨by omega, ?_⟩)
  refine hK1 _ _ ?_; try (clear hK1; clear K1)
  refine TWp.sr fun K2 hK2 => ?_
  simp (disch := omega) only [seval, go_sem]
  repeat (refine ⟨by omega, ?_⟩)
  refine hK2 _ _ ?_; try (clear hK2; clear K2)
  refine TWp.sr fun K3 hK3 => ?_
  simp (disch := omega) only [seval, go_sem]
  repeat (refine ⟨by omega, ?_⟩)
  refine hK3 _ _ ?_; try (clear hK3; clear K3)
  refine TWp.sr fun K4 hK4 => ?_
  simp (disch := omega) only [seval, go_sem]
  repeat (refine ⟨by omega, ?_⟩)
  refine hK4 _ _ ?_; try (clear hK4; clear K4)
  exact TWp.ret ⟨.inr rfl, [_, _], ⟨rfl, rfl, trivial⟩, rfl, rfl⟩

theorem c_godownref02_wide {S : TS} {a b : BitVec 64} {K : TV → TS → Prop} (hK : K (.tup [.lit (w64 (wideH a b)), .lit (w64 (a * b))]) S) : TCall env 26 [.lit (w64 a), .lit (w64 b)] S K :=
  (c_godownref02_wide_ok S a b).mono fun t S' ⟨h1, h2⟩ => by rw [h1, h2]; exact hK
def squareF (a n : BitVec 64) : Bool := ltI (wideH a a) n || (eqI (wideH a a) n && zI (a * a))
set_option maxRecDepth 8000 in
theorem c_godownref02_square_ok (S : TS) (a n : BitVec 64) : TCall env 25 [.lit (w64 a), .lit (w64 n)] S fun r S' => r = .lit (.bool (squareF a n)) ∧ S' = S := by
  refine TCall.of 25 [.tmp 4] Tryd.func25 rfl rfl rfl rfl (by kernel_rfl) rfl ?_
  refine TWp.sr fun K0 hK0 => ?_
  simp (disch := omega) only [seval, go_sem]
  repeat (refine ⟨by omega, ?_⟩)
  refine hK0 _ _ ?_; try (clear hK0; clear K0)
  refine TWp.sr fun K1 hK1 => ?_
  simp (disch := omega) only [seval, go_sem]
  repeat (refine ⟨by omega, ?_⟩)
  refine c_godownref02_wide ?_
  simp (disch := omega) only [seval, go_sem]
  repeat (refine ⟨by omega, ?_⟩)
  refine hK1 _ _ ?_; try (clear hK1; clear K1)
  refine TWp.sr fun K2 hK2 => ?_
  simp (disch := omega) only [seval, go_sem]
  repeat' (first | refine ⟨by omega, ?_⟩ | (refine brT_split (fun hb => ?_) (fun hb => ?_) <;> simp (disch := omega) only [seval, go_sem, hb]))
  all_goals
    refine hK2 _ _ ?_; try (clear hK2; clear K2)
    all_goals (refine TWp.ret ⟨.inr rfl, [_], ⟨rfl, trivial⟩, ?_, rfl⟩)
    all_goals (show TV.lit (.bool _) = _)
    all_goals (simp only [squareF, ltI, eqI, zI, decide_eq_true_eq, decide_true, decide_false, if_true, if_false, Bool.false_eq_true, Bool.true_or, Bool.false_or, Bool.true_and, Bool.false_and, *])

theorem c_godownref02_square {S : TS} {a n : BitVec 64} {K : TV → TS → Prop} (hK : K (.lit (.bool (squareF a n))) S) : TCall env 25 [.lit (w64 a), .lit (w64 n)] S K :=
  (c_godownref02_square_ok S a n).mono fun t S' ⟨h1, h2⟩ => by rw [h1, h2]; exact hK
def cubeF (a n : BitVec 64) : Bool :=
  let hi := wideH a a
  let lo := a * a
  let x := wideH lo a
  let y := lo * a
  let w := hi * a
  let mid := w + x
  let z := if ltI mid w then wideH hi a + 1#64 else wideH hi a
  let top := z <<< 32 ||| mid >>> 32
  let rest := mid % 4294967296#64 ||| y
  ltI top n || (eqI top n && zI rest)
set_option maxRecDepth 8000 in
theorem c_godownref02_cube_ok (S : TS) (a n : BitVec 64) : TCall env 24 [.lit (w64 a), .lit (w64 n)] S fun r S' => r = .lit (.bool (cubeF a n)) ∧ S' = S := by
  refine TCall.of 61 [.tmp 4] Tryd.func24 rfl rfl rfl rfl (by kernel_rfl) rfl ?_
  refine TWp.sr fun K0 hK0 => ?_
  simp (disch := omega) only [seval, go_sem]
  repeat (refine ⟨by omega, ?_⟩)
  refine hK0 _ _ ?_; try (clear hK0; clear K0)
  refine TWp.sr fun K1 hK1 => ?_
  simp (disch := omega) only [seval, go_sem]
  repeat (refine ⟨by omega, ?_⟩)
  refine c_godownref02_wide ?_
  simp (disch := omega) only [seval, go_sem]
  repeat (refine ⟨by omega, ?_⟩)
  refine hK1 _ _ ?_; try (clear hK1; clear K1)
  refine TWp.sr fun K2 hK2 => ?_
  simp (disch := omega) only [seval, go_sem]
  repeat (refine ⟨by omega, ?_⟩)
  refine c_godownref02_wide ?_
  simp (disch := omega) only [seval, go_sem]
  repeat (refine ⟨by omega, ?_⟩)
  refine hK2 _ _ ?_; try (clear hK2; clear K2)
  refine TWp.sr fun K3 hK3 => ?_
  simp (disch := omega) only [seval, go_sem]
  repeat (refine ⟨by omega, ?_⟩)
  refine c_godownref02_wide ?_
  simp (disch := omega) only [seval, go_sem]
  repeat (refine ⟨by omega, ?_⟩)
  refine hK3 _ _ ?_; try (clear hK3; clear K3)
  refine TWp.sr fun K4 hK4 => ?_
  simp (disch := omega) only [seval, go_sem]
  repeat (refine ⟨by omega, ?_⟩)
  refine hK4 _ _ ?_; try (clear hK4; clear K4)
  refine TWp.seq_k fun K5 hK5 => ?_
  refine TWp.sr fun K6 hK6 => ?_
  simp (disch := omega) only [seval, go_sem]
  repeat (refine ⟨by omega, ?_⟩)
  refine hK6 _ _ ?_; try (clear hK6; clear K6)
  refine TWp.cond rfl (fun hb => ?_) (fun hb => ?_)
  · try (replace hb := of_decide_eq_true hb)
    refine TWp.rk fun K7 hK7 => ?_
    simp (disch := omega) only [seval, go_sem]
    repeat (refine ⟨by omega, ?_⟩)
    refine hK7 _ _ ?_; try (clear hK7; clear K7)
    refine hK5 _ _ ?_; try (clear hK5; clear K5)
    refine TWp.sr fun K8 hK8 => ?_
    simp (disch := omega) only [seval, go_sem]
    repeat (refine ⟨by omega, ?_⟩)
    refine hK8 _ _ ?_; try (clear hK8; clear K8)
    refine TWp.sr fun K9 hK9 => ?_
    simp (disch := omega) only [seval, go_sem]
    repeat (refine ⟨by omega, ?_⟩)
    refine hK9 _ _ ?_; try (clear hK9; clear K9)
    refine TWp.sr fun K10 hK10 => ?_
    simp (disch := omega) only [seval, go_sem]
    repeat' (first | refine ⟨by omega, ?_⟩ | (refine brT_split (fun hb => ?_) (fun hb => ?_) <;> simp (disch := omega) only [seval, go_sem, hb]))
    all_goals
      refine hK10 _ _ ?_; try (clear hK10; clear K10)
      all_goals (refine TWp.ret ⟨.inr rfl, [_], ⟨rfl, trivial⟩, ?_, rfl⟩)
      all_goals (show TV.lit (.bool _) = _)
      all_goals (simp only [cubeF, ltI, eqI, zI, decide_eq_true_eq, decide_true, decide_false, if_true, if_false, Bool.false_eq_true, Bool.true_or, Bool.false_or, Bool.true_and, Bool.false_and, *])
  · try (replace hb := of_decide_eq_false hb)
    refine TWp.skip ?_
    refine hK5 _ _ ?_; try (clear hK5; clear K5)
    refine TWp.sr fun K11 hK11 => ?_
    simp (disch := omega) only [seval, go_sem]
    repeat (refine ⟨by omega, ?_⟩)
    refine hK11 _ _ ?_; try (clear hK11; clear K11)
    refine TWp.sr fun K12 hK12 => ?_
    simp (disch := omega) only [seval, go_sem]
    repeat (refine ⟨by omega, ?_⟩)
    refine hK12 _ _ ?_; try (clear hK12; clear K12)
    refine TWp.sr fun K13 hK13 => ?_
    simp (disch := omega) only [seval, go_sem]
    repeat' (first | refine ⟨by omega, ?_⟩ | (refine brT_split (fun hb => ?_) (fun hb => ?_) <;> simp (disch := omega) only [seval, go_sem, hb]))
    all_goals
      refine hK13 _ _ ?_; try (clear hK13; clear K13)
      all_goals (refine TWp.ret ⟨.inr rfl, [_], ⟨rfl, trivial⟩, ?_, rfl⟩)
      all_goals (show TV.lit (.bool _) = _)
      all_goals (simp only [cubeF, ltI, eqI, zI, decide_eq_true_eq, decide_true, decide_false, if_true, if_false, Bool.false_eq_true, Bool.true_or, Bool.false_or, Bool.true_and, Bool.false_and, *])

theorem c_godownref02_cube {S : TS} {a n : BitVec 64} {K : TV → TS → Prop} (hK : K (.lit (.bool (cubeF a n))) S) : TCall env 24 [.lit (w64 a), .lit (w64 n)] S K :=
  (c_godownref02_cube_ok S a n).mono fun t S' ⟨h1, h2⟩ => by rw [h1, h2]; exact hK

def rootUpto (f : BitVec 64 → BitVec 64 → Bool) (x : BitVec 64) : Nat → BitVec 64 → BitVec 64
  | 0, a => a
  | k + 1, a => rootUpto f x k (if f (a + 1#64 <<< k) x = true then a + 1#64 <<< k else a)
def rootF (f : BitVec 64 → BitVec 64 → Bool) (x : BitVec 64) : BitVec 32 := BitVec.setWidth 32 (rootUpto f x 37 0 % 4294967296#64)
set_option maxRecDepth 8000 in
theorem c_godownref02_root_cube_ok (S : TS) (x : BitVec 64) : TCall env 23 [.lit (w64 x), .lit (.bool true)] S fun r S' => r = .lit (w32 (rootF cubeF x)) ∧ S' = S := by
  refine TCall.of 35 [.tmp 4] Tryd.func23 rfl rfl rfl rfl (by kernel_rfl) rfl ?_
  refine TWp.sr fun K0 hK0 => ?_
  simp (disch := omega) only [seval, go_sem]
  repeat (refine ⟨by omega, ?_⟩)
  refine hK0 _ _ ?_; try (clear hK0; clear K0)
  refine TWp.sr fun K1 hK1 => ?_
  simp (disch := omega) only [seval, go_sem]
  repeat (refine ⟨by omega, ?_⟩)
  refine hK1 _ _ ?_; try (clear hK1; clear K1)
  refine TWp.seq_k fun K2 hK2 => ?_
  refine TWp.sr fun K3 hK3 => ?_
  simp (disch := omega) only [seval, go_sem]
  repeat (refine ⟨by omega, ?_⟩)
  refine hK3 _ _ ?_; try (clear hK3; clear K3)
  refine TWp.block ?_
  refine TWp.loop (fun n T S' => ∃ a, rootUpto cubeF x n a = rootUpto cubeF x 37 0 ∧ n ≤ 37 ∧ T 0 = .lit (w64 x) ∧ T 1 = .lit (.bool true) ∧ T 5 = .lit (w64 a) ∧ T 6 = .lit (.int .i64 ((n : Int) - 1)) ∧ S' = S) (37) ?_ ?_
  · exact ⟨0, rfl, by omega, rfl, rfl, rfl, rfl, rfl⟩
  rintro n T S' ⟨a, hr, hn, h0, h1, h5, h6, rfl⟩
  refine TWp.seq_k fun K4 hK4 => ?_
  refine TWp.sr fun K5 hK5 => ?_
  simp (disch := omega) only [seval, go_sem, h0, h1, h5, h6]
  repeat (refine ⟨by omega, ?_⟩)
  refine hK5 _ _ ?_; try (clear hK5; clear K5)
  refine TWp.cond rfl (fun hb => ?_) (fun hb => ?_)
  · try (replace hb := of_decide_eq_true hb)
    refine TWp.skip ?_
    refine hK4 _ _ ?_; try (clear hK4; clear K4)
    refine TWp.seq_k fun K6 hK6 => ?_
    refine TWp.block ?_
    refine TWp.sr fun K7 hK7 => ?_
    simp (disch := omega) only [seval, go_sem, h0, h1, h5, h6]
    repeat (refine ⟨by omega, ?_⟩)
    refine hK7 _ _ ?_; try (clear hK7; clear K7)
    refine TWp.sr fun K8 hK8 => ?_
    simp (disch := omega) only [seval, go_sem, h0, h1, h5, h6]
    repeat (refine ⟨by omega, ?_⟩)
    refine c_godownref02_cube ?_
    simp (disch := omega) only [seval, go_sem, h0, h1, h5, h6]
    repeat' (first | refine ⟨by omega, ?_⟩ | (refine brT_split (fun hb => ?_) (fun hb => ?_) <;> simp (disch := omega) only [seval, go_sem, hb, h0, h1, h5, h6]))
    all_goals
      refine hK8 _ _ ?_; try (clear hK8; clear K8)
      refine TWp.cond rfl (fun hb => ?_) (fun hb => ?_)
      · try (replace hb := of_decide_eq_true hb)
        try (exact absurd hb (by decide))
        all_goals
          refine TWp.rk fun K9 hK9 => ?_
          simp (disch := omega) only [seval, go_sem, h0, h1, h5, h6]
          repeat (refine ⟨by omega, ?_⟩)
          refine hK9 _ _ ?_; try (clear hK9; clear K9)
          refine hK6 _ _ ?_; try (clear hK6; clear K6)
          refine TWp.rk fun K10 hK10 => ?_
          simp (disch := omega) only [seval, go_sem, h0, h1, h5, h6]
          repeat (refine ⟨by omega, ?_⟩)
          refine hK10 _ _ ?_; try (clear hK10; clear K10)
          obtain ⟨m, rfl⟩ : ∃ m, n = m + 1 := ⟨n - 1, by omega⟩
          refine ⟨m, by omega, _, ?_, by omega, h0, h1, rfl, ?_, rfl⟩
          · rw [← hr, rootUpto, if_pos (by assumption)]; rfl
          · simp [upd]
      · try (replace hb := of_decide_eq_false hb)
        try (exact absurd hb (by decide))
        all_goals
          refine TWp.skip ?_
          refine hK6 _ _ ?_; try (clear hK6; clear K6)
          refine TWp.rk fun K11 hK11 => ?_
          simp (disch := omega) only [seval, go_sem, h0, h1, h5, h6]
          repeat (refine ⟨by omega, ?_⟩)
          refine hK11 _ _ ?_; try (clear hK11; clear K11)
          obtain ⟨m, rfl⟩ : ∃ m, n = m + 1 := ⟨n - 1, by omega⟩
          refine ⟨m, by omega, _, ?_, by omega, h0, h1, h5, ?_, rfl⟩
          · rw [← hr, rootUpto, if_neg (by rw [Bool.not_eq_true]; assumption)]
          · simp [upd]
  · try (replace hb := of_decide_eq_false hb)
    refine TWp.exit ?_
    refine hK2 _ _ ?_; try (clear hK2; clear K2)
    refine TWp.sr fun K12 hK12 => ?_
    simp (disch := omega) only [seval, go_sem, h0, h1, h5, h6]
    repeat (refine ⟨by omega, ?_⟩)
    refine hK12 _ _ ?_; try (clear hK12; clear K12)
    obtain rfl : n = 0 := by omega
    refine TWp.ret ⟨.inr rfl, [_], ⟨rfl, trivial⟩, ?_, rfl⟩
    rw [rootF, ← hr]
    rfl

theorem c_godownref02_root_cube {S : TS} {x : BitVec 64} {K : TV → TS → Prop} (hK : K (.lit (w32 (rootF cubeF x))) S) : TCall env 23 [.lit (w64 x), .lit (.bool true)] S K :=
  (c_godownref02_root_cube_ok S x).mono fun t S' ⟨h1, h2⟩ => by rw [h1, h2]; exact hK
set_option maxRecDepth 8000 in
theorem c_godownref02_root_square_ok (S : TS) (x : BitVec 64) : TCall env 23 [.lit (w64 x), .lit (.bool false)] S fun r S' => r = .lit (w32 (rootF squareF x)) ∧ S' = S := by
  refine TCall.of 35 [.tmp 4] Tryd.func23 rfl rfl rfl rfl (by kernel_rfl) rfl ?_
  refine TWp.sr fun K0 hK0 => ?_
  simp (disch := omega) only [seval, go_sem]
  repeat (refine ⟨by omega, ?_⟩)
  refine hK0 _ _ ?_; try (clear hK0; clear K0)
  refine TWp.sr fun K1 hK1 => ?_
  simp (disch := omega) only [seval, go_sem]
  repeat (refine ⟨by omega, ?_⟩)
  refine hK1 _ _ ?_; try (clear hK1; clear K1)
  refine TWp.seq_k fun K2 hK2 => ?_
  refine TWp.sr fun K3 hK3 => ?_
  simp (disch := omega) only [seval, go_sem]
  repeat (refine ⟨by omega, ?_⟩)
  refine hK3 _ _ ?_; try (clear hK3; clear K3)
  refine TWp.block ?_
  refine TWp.loop (fun n T S' => ∃ a, rootUpto squareF x n a = rootUpto squareF x 37 0 ∧ n ≤ 37 ∧ T 0 = .lit (w64 x) ∧ T 1 = .lit (.bool false) ∧ T 5 = .lit (w64 a) ∧ T 6 = .lit (.int .i64 ((n : Int) - 1)) ∧ S' = S) (37) ?_ ?_
  · exact ⟨0, rfl, by omega, rfl, rfl, rfl, rfl, rfl⟩
  rintro n T S' ⟨a, hr, hn, h0, h1, h5, h6, rfl⟩
  refine TWp.seq_k fun K4 hK4 => ?_
  refine TWp.sr fun K5 hK5 => ?_
  simp (disch := omega) only [seval, go_sem, h0, h1, h5, h6]
  repeat (refine ⟨by omega, ?_⟩)
  refine hK5 _ _ ?_; try (clear hK5; clear K5)
  refine TWp.cond rfl (fun hb => ?_) (fun hb => ?_)
  · try (replace hb := of_decide_eq_true hb)
    refine TWp.skip ?_
    refine hK4 _ _ ?_; try (clear hK4; clear K4)
    refine TWp.seq_k fun K6 hK6 => ?_
    refine TWp.block ?_
    refine TWp.sr fun K7 hK7 => ?_
    simp (disch := omega) only [seval, go_sem, h0, h1, h5, h6]
    repeat (refine ⟨by omega, ?_⟩)
    refine hK7 _ _ ?_; try (clear hK7; clear K7)
    refine TWp.sr fun K8 hK8 => ?_
    simp (disch := omega) only [seval, go_sem, h0, h1, h5, h6]
    repeat (refine ⟨by omega, ?_⟩)
    refine c_godownref02_square ?_
    simp (disch := omega) only [seval, go_sem, h0, h1, h5, h6]
    repeat' (first | refine ⟨by omega, ?_⟩ | (refine brT_split (fun hb => ?_) (fun hb => ?_) <;> simp (disch := omega) only [seval, go_sem, hb, h0, h1, h5, h6]))
    all_goals
      refine hK8 _ _ ?_; try (clear hK8; clear K8)
      refine TWp.cond rfl (fun hb => ?_) (fun hb => ?_)
      · try (replace hb := of_decide_eq_true hb)
        try (exact absurd hb (by decide))
        all_goals
          refine TWp.rk fun K9 hK9 => ?_
          simp (disch := omega) only [seval, go_sem, h0, h1, h5, h6]
          repeat (refine ⟨by omega, ?_⟩)
          refine hK9 _ _ ?_; try (clear hK9; clear K9)
          refine hK6 _ _ ?_; try (clear hK6; clear K6)
          refine TWp.rk fun K10 hK10 => ?_
          simp (disch := omega) only [seval, go_sem, h0, h1, h5, h6]
          repeat (refine ⟨by omega, ?_⟩)
          refine hK10 _ _ ?_; try (clear hK10; clear K10)
          obtain ⟨m, rfl⟩ : ∃ m, n = m + 1 := ⟨n - 1, by omega⟩
          refine ⟨m, by omega, _, ?_, by omega, h0, h1, rfl, ?_, rfl⟩
          · rw [← hr, rootUpto, if_pos (by assumption)]; rfl
          · simp [upd]
      · try (replace hb := of_decide_eq_false hb)
        try (exact absurd hb (by decide))
        all_goals
          refine TWp.skip ?_
          refine hK6 _ _ ?_; try (clear hK6; clear K6)
          refine TWp.rk fun K11 hK11 => ?_
          simp (disch := omega) only [seval, go_sem, h0, h1, h5, h6]
          repeat (refine ⟨by omega, ?_⟩)
          refine hK11 _ _ ?_; try (clear hK11; clear K11)
          obtain ⟨m, rfl⟩ : ∃ m, n = m + 1 := ⟨n - 1, by omega⟩
          refine ⟨m, by omega, _, ?_, by omega, h0, h1, h5, ?_, rfl⟩
          · rw [← hr, rootUpto, if_neg (by rw [Bool.not_eq_true]; assumption)]
          · simp [upd]
  · try (replace hb := of_decide_eq_false hb)
    refine TWp.exit ?_
    refine hK2 _ _ ?_; try (clear hK2; clear K2)
    refine TWp.sr fun K12 hK12 => ?_
    simp (disch := omega) only [seval, go_sem, h0, h1, h5, h6]
    repeat (refine ⟨by omega, ?_⟩)
    refine hK12 _ _ ?_; try (clear hK12; clear K12)
    obtain rfl : n = 0 := by omega
    refine TWp.ret ⟨.inr rfl, [_], ⟨rfl, trivial⟩, ?_, rfl⟩
    rw [rootF, ← hr]
    rfl

theorem c_godownref02_root_square {S : TS} {x : BitVec 64} {K : TV → TS → Prop} (hK : K (.lit (w32 (rootF squareF x))) S) : TCall env 23 [.lit (w64 x), .lit (.bool false)] S K :=
  (c_godownref02_root_square_ok S x).mono fun t S' ⟨h1, h2⟩ => by rw [h1, h2]; exact hK

end Go.Proofs.YteafcknljhglkaaDoor
