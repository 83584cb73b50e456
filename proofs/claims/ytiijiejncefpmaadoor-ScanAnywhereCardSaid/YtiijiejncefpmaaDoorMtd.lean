/-
  Paths: what the program's and the reference's functions do.
-/
import Derived.Test.YtiijiejncefpmaaDoorMtc
import Derived.Laws.Externs
set_option linter.unusedVariables false
set_option linter.unusedSimpArgs false
namespace Go.Proofs.YtiijiejncefpmaaDoor
open Go.RowKit TL

def okc (c : BitVec 8) : Bool := decide (97 ≤ c.toNat ∧ c.toNat ≤ 122) || decide (48 ≤ c.toNat ∧ c.toNat ≤ 57) || decide (c.toNat = 43) || decide (c.toNat = 45) || decide (c.toNat = 46) || decide (c.toNat = 95)
def rightS (s : Bs) : Bool := decide (1 ≤ s.length) && decide (s.length ≤ 40) && decide ((s.getD 0 0#8).toNat ≠ 46) && s.all okc
theorem take_all {α : Type} {p : α → Bool} {s : List α} {i : Nat} {d : α} (h : (s.take i).all p = true) (hi : i < s.length) (hp : p (s.getD i d) = true) : (s.take (i + 1)).all p = true := by
  rw [List.take_add_one, List.all_append, h, Bool.true_and]
  rw [List.getElem?_eq_getElem hi]
  rw [List.getD_eq_getElem?_getD, List.getElem?_eq_getElem hi] at hp
  simpa using hp
theorem all_not {α : Type} {p : α → Bool} {s : List α} {i : Nat} {d : α} (hi : i < s.length) (hp : p (s.getD i d) = false) : s.all p = false := by
  rw [List.getD_eq_getElem?_getD, List.getElem?_eq_getElem hi] at hp
  rw [List.all_eq_false]
  exact ⟨_, List.getElem_mem hi, by simpa using hp⟩

theorem okc_yes {c : BitVec 8} (h : (97 ≤ c.toNat ∧ c.toNat ≤ 122) ∨ (48 ≤ c.toNat ∧ c.toNat ≤ 57) ∨ c.toNat = 43 ∨ c.toNat = 45 ∨ c.toNat = 46 ∨ c.toNat = 95) : okc c = true := by
  simp only [okc, Bool.or_eq_true, decide_eq_true_eq]; omega
theorem okc_no {c : BitVec 8} (h : ¬ ((97 ≤ c.toNat ∧ c.toNat ≤ 122) ∨ (48 ≤ c.toNat ∧ c.toNat ≤ 57) ∨ c.toNat = 43 ∨ c.toNat = 45 ∨ c.toNat = 46 ∨ c.toNat = 95)) : okc c = false := by
  rw [Bool.eq_false_iff]
  simp only [okc, ne_eq, Bool.or_eq_true, decide_eq_true_eq]; omega
theorem right_no {s : Bs} (h : s.length < 1 ∨ 40 < s.length ∨ (s.getD 0 0#8).toNat = 46) : rightS s = false := by
  rw [Bool.eq_false_iff]
  simp only [rightS, ne_eq, Bool.and_eq_true, decide_eq_true_eq]; omega
theorem right_bad {s : Bs} {i : Nat} (hi : i < s.length) (h : okc (s.getD i 0#8) = false) : rightS s = false := by
  rw [rightS, all_not hi h, Bool.and_false]
theorem right_yes {s : Bs} (h1 : 1 ≤ s.length) (h2 : s.length ≤ 40) (h3 : (s.getD 0 0#8).toNat ≠ 46) (h4 : s.all okc = true) : rightS s = true := by
  simp only [rightS, Bool.and_eq_true, decide_eq_true_eq]; exact ⟨⟨⟨h1, h2⟩, h3⟩, h4⟩
theorem rb {b c : Bool} {S S' : TS} (h : c = b) (hs : S' = S) : TV.lit (.bool b) = .lit (.bool c) ∧ S' = S := by rw [h]; exact ⟨rfl, hs⟩

set_option maxRecDepth 8000 in
set_option maxHeartbeats 1000000 in
theorem c_godownref07_Right_ok (S : TS) (s : Bs) : TCall env 15 [.lit (.string (st s))] S fun r S' => r = .lit (.bool (rightS s)) ∧ S' = S := by
  refine TCall.of 58 [.tmp 2] Tryd.func15 rfl rfl rfl rfl (by kernel_rfl) rfl ?_
  refine TWp.sr fun K0 hK0 => ?_
  simp -implicitDefEqProofs (disch := omega) only [seval, go_sem]
  repeat (with_reducible refine ⟨by first | omega | exact Keep.push _ _, ?_⟩)
  refine hK0 _ _ ?_; try (clear hK0; clear K0)
  refine TWp.seq_k fun K1 hK1 => ?_
  refine TWp.sr fun K2 hK2 => ?_
  simp -implicitDefEqProofs (disch := omega) only [seval, go_sem]
  repeat' (first | with_reducible refine ⟨by first | omega | exact Keep.push _ _, ?_⟩ | (refine brT_split (fun hb => ?_) (fun hb => ?_) <;> (have hb' := hb; try simp only [decide_eq_true_eq, decide_eq_false_iff_not] at hb') <;> simp -implicitDefEqProofs (disch := omega) only [seval, go_sem, hb]))
  all_goals
    refine hK2 _ _ ?_; try (clear hK2; clear K2)
    refine TWp.cond_k fun K3 hK3 => ?_
    simp -implicitDefEqProofs (disch := omega) only [seval, go_sem]
    refine hK3 _ (fun hb => ?_) (fun hb => ?_) <;> clear hK3 <;> clear K3
    · try (replace hb := of_decide_eq_true hb)
      try (exact absurd hb (by decide))
      all_goals
        refine TWp.sr fun K4 hK4 => ?_
        simp -implicitDefEqProofs (disch := omega) only [seval, go_sem]
        repeat (with_reducible refine ⟨by first | omega | exact Keep.push _ _, ?_⟩)
        refine hK4 _ _ ?_; try (clear hK4; clear K4)
        refine TWp.ret ⟨.inr rfl, [_], ⟨rfl, trivial⟩, ?_⟩
        exact rb (right_no (by omega)) rfl
    · try (replace hb := of_decide_eq_false hb)
      try (exact absurd hb (by decide))
      all_goals
        refine TWp.skip ?_
        refine hK1 _ _ ?_; try (clear hK1; clear K1)
        refine TWp.seq_k fun K5 hK5 => ?_
        refine TWp.sr fun K6 hK6 => ?_
        simp -implicitDefEqProofs (disch := omega) only [seval, go_sem]
        repeat (with_reducible refine ⟨by first | omega | exact Keep.push _ _, ?_⟩)
        refine hK6 _ _ ?_; try (clear hK6; clear K6)
        refine TWp.block ?_
        refine TWp.loop (fun n T S' => ∃ i : Nat, n + i = s.length ∧ T 0 = .lit (.string (st s)) ∧ T 3 = .lit (.int .i64 (i : Int)) ∧ (s.take i).all okc = true ∧ S' = S) (s.length) ?_ ?_
        · exact ⟨0, rfl, rfl, rfl, rfl, rfl⟩
        rintro n T S' ⟨i, hi, h0, h3, ha, hS⟩
        refine TWp.seq_k fun K7 hK7 => ?_
        refine TWp.sr fun K8 hK8 => ?_
        simp -implicitDefEqProofs (disch := omega) only [seval, go_sem, h0, h3]
        repeat (with_reducible refine ⟨by first | omega | exact Keep.push _ _, ?_⟩)
        refine hK8 _ _ ?_; try (clear hK8; clear K8)
        refine TWp.cond_k fun K9 hK9 => ?_
        simp -implicitDefEqProofs (disch := omega) only [seval, go_sem, h0, h3]
        refine hK9 _ (fun hb => ?_) (fun hb => ?_) <;> clear hK9 <;> clear K9
        · try (replace hb := of_decide_eq_true hb)
          try (exact absurd hb (by decide))
          all_goals
            refine TWp.skip ?_
            refine hK7 _ _ ?_; try (clear hK7; clear K7)
            refine TWp.seq_k fun K10 hK10 => ?_
            refine TWp.block ?_
            refine TWp.sr fun K11 hK11 => ?_
            simp -implicitDefEqProofs (disch := omega) only [seval, go_sem, h0, h3]
            repeat (with_reducible refine ⟨by first | omega | exact Keep.push _ _, ?_⟩)
            refine hK11 _ _ ?_; try (clear hK11; clear K11)
            refine TWp.sr fun K12 hK12 => ?_
            simp -implicitDefEqProofs (disch := omega) only [seval, go_sem, h0, h3]
            repeat' (first | with_reducible refine ⟨by first | omega | exact Keep.push _ _, ?_⟩ | (refine brT_split (fun hb => ?_) (fun hb => ?_) <;> (have hb' := hb; try simp only [decide_eq_true_eq, decide_eq_false_iff_not] at hb') <;> simp -implicitDefEqProofs (disch := omega) only [seval, go_sem, hb, h0, h3]))
            all_goals
              refine hK12 _ _ ?_; try (clear hK12; clear K12)
              refine TWp.cond_k fun K13 hK13 => ?_
              simp -implicitDefEqProofs (disch := omega) only [seval, go_sem, h0, h3]
              refine hK13 _ (fun hb => ?_) (fun hb => ?_) <;> clear hK13 <;> clear K13
              · try (replace hb := of_decide_eq_true hb)
                try (exact absurd hb (by decide))
                all_goals
                  refine TWp.sr fun K14 hK14 => ?_
                  simp -implicitDefEqProofs (disch := omega) only [seval, go_sem, h0, h3]
                  repeat (with_reducible refine ⟨by first | omega | exact Keep.push _ _, ?_⟩)
                  refine hK14 _ _ ?_; try (clear hK14; clear K14)
                  refine TWp.ret ⟨.inr rfl, [_], ⟨rfl, trivial⟩, ?_⟩
                  try (simp only [Bool.not_eq_true', decide_eq_false_iff_not, Bool.not_eq_false', decide_eq_true_eq] at hb)
                  exact rb (right_bad (i := i) (by omega) (okc_no (by omega))) hS
              · try (replace hb := of_decide_eq_false hb)
                try (exact absurd hb (by decide))
                all_goals
                  refine TWp.skip ?_
                  refine hK10 _ _ ?_; try (clear hK10; clear K10)
                  refine TWp.rk fun K15 hK15 => ?_
                  simp -implicitDefEqProofs (disch := omega) only [seval, go_sem, h0, h3]
                  repeat (with_reducible refine ⟨by first | omega | exact Keep.push _ _, ?_⟩)
                  refine hK15 _ _ ?_; try (clear hK15; clear K15)
                  try (simp only [Bool.not_eq_true', decide_eq_false_iff_not, Bool.not_eq_false', decide_eq_true_eq] at hb)
                  exact ⟨n - 1, by omega, i + 1, by omega, h0, rfl, take_all (d := 0#8) ha (by omega) (okc_yes (by omega)), hS⟩
        · try (replace hb := of_decide_eq_false hb)
          try (exact absurd hb (by decide))
          all_goals
            refine TWp.exit ?_
            refine hK5 _ _ ?_; try (clear hK5; clear K5)
            refine TWp.sr fun K16 hK16 => ?_
            simp -implicitDefEqProofs (disch := omega) only [seval, go_sem, h0, h3]
            repeat (with_reducible refine ⟨by first | omega | exact Keep.push _ _, ?_⟩)
            refine hK16 _ _ ?_; try (clear hK16; clear K16)
            refine TWp.ret ⟨.inr rfl, [_], ⟨rfl, trivial⟩, ?_⟩
            exact rb (right_yes (by omega) (by omega) (by omega) (by rw [← ha, List.take_of_length_le (by omega)])) hS

end Go.Proofs.YtiijiejncefpmaaDoor
namespace Go.Proofs.YtiijiejncefpmaaDoor
open Go.RowKit TL

/-- A row of truth values. -/
def dO (bs : List Bool) : List TV := bs.map fun b => .lit (.bool b)
theorem dO_len (bs : List Bool) : (dO bs).length = bs.length := by simp [dO]
theorem dO_get {bs : List Bool} {i : Nat} (h : i < bs.length) : (dO bs).getD i .unk = .lit (.bool (bs.getD i false)) := by
  simp [dO, List.getD_eq_getElem?_getD, List.getElem?_map, List.getElem?_eq_getElem h]
theorem dO_get' {bs : List Bool} {i : Nat} (h : i < bs.length) : (dO bs)[i]? = some (.lit (.bool (bs.getD i false))) := by
  simp [dO, List.getD_eq_getElem?_getD, List.getElem?_map, List.getElem?_eq_getElem h]
theorem dO_set (bs : List Bool) (i : Nat) (x : Bool) : (dO bs).set i (.lit (.bool x)) = dO (bs.set i x) := by simp [dO, List.map_set]
theorem dO_flat (bs : List Bool) : (dO bs).all flatT = true := by simp [dO, flatT]
theorem dO_take (bs : List Bool) (n : Nat) : (dO bs).take n = dO (bs.take n) := by simp [dO, List.map_take]
theorem dO_drop (bs : List Bool) (n : Nat) : (dO bs).drop n = dO (bs.drop n) := by simp [dO, List.map_drop]
theorem dO_spl0 {a b : List Bool} (h : a.length = b.length) : spl (dO a) 0 (dO b) = dO b := by
  have := spl_append [] (dO b) (dO a) [] (by simp [dO, h])
  simpa using this
attribute [go_sem] dO_len dO_get dO_get' dO_set dO_flat dO_take dO_drop dO_spl0
theorem mem_getD {s : Bs} {i : Nat} (h : i < s.length) : s.getD i 0#8 ∈ s := by
  rw [List.getD_eq_getElem?_getD, List.getElem?_eq_getElem h]
  exact List.getElem_mem h
def no256 : List Bool := List.replicate 256 false
set_option maxRecDepth 20000 in
theorem zeroSet_c : ofConst zero83 = .agg (dO no256) := rfl
theorem no256_len : no256.length = 256 := List.length_replicate
attribute [go_sem] zeroSet_c no256_len
def setOf (s : Bs) : List Bool := s.foldl (fun a c => a.set c.toNat true) no256
theorem foldSet_len (s : Bs) : ∀ a : List Bool, (s.foldl (fun a c => a.set c.toNat true) a).length = a.length := by
  induction s with
  | nil => intro a; rfl
  | cons c s ih => intro a; rw [List.foldl_cons, ih, List.length_set]
theorem setOf_len (s : Bs) : (setOf s).length = 256 := by rw [setOf, foldSet_len, no256_len]
theorem setOf_next {s : Bs} {i : Nat} (h : i < s.length) : setOf (s.take (i + 1)) = (setOf (s.take i)).set (s.getD i 0#8).toNat true := by
  rw [setOf, List.take_add_one, List.foldl_append, List.getElem?_eq_getElem h, List.getD_eq_getElem?_getD, List.getElem?_eq_getElem h]
  rfl

set_option maxRecDepth 8000 in
set_option maxHeartbeats 1000000 in
theorem c_strings_asciiSet_contains_ok (S : TS) (id : Nat) (bs : List Bool) (hl : bs.length = 256) (c : BitVec 8) (hS : S.objs id = .cells 83 (dO bs)) : TCall env 80 [.ptr id 0, .lit (w8 c)] S fun r S' => r = .lit (.bool (bs.getD c.toNat false)) ∧ S' = S := by
  refine TCall.of 10 [.tmp 4] Tryd.func80 rfl rfl rfl rfl (by kernel_rfl) rfl ?_
  refine TWp.sr fun K0 hK0 => ?_
  simp -implicitDefEqProofs (disch := omega) only [seval, go_sem, hS, hl]
  repeat (with_reducible refine ⟨by first | omega | exact Keep.push _ _, ?_⟩)
  refine hK0 _ _ ?_; try (clear hK0; clear K0)
  refine TWp.sr fun K1 hK1 => ?_
  simp -implicitDefEqProofs (disch := omega) only [seval, go_sem, hS, hl]
  repeat (with_reducible refine ⟨by first | omega | exact Keep.push _ _, ?_⟩)
  refine hK1 _ _ ?_; try (clear hK1; clear K1)
  refine TWp.ret ⟨.inr rfl, [_], ⟨rfl, trivial⟩, ?_⟩
  exact ⟨rfl, rfl⟩
set_option maxRecDepth 8000 in
set_option maxHeartbeats 1000000 in
theorem c_strings_makeASCIISet_ok (S : TS) (s : Bs) (hs : ∀ c ∈ s, c.toNat < 128) (hm : s.length ≤ 1000000) : TCall env 59 [.lit (.string (st s))] S fun r S' => r = .tup [.agg (dO (setOf s)), .lit (.bool true)] ∧ Keep S S' := by
  have hl0 := setOf_len s
  refine TCall.of 21 [.cell 2 83, .tmp 3] Tryd.func59 rfl rfl rfl rfl (by kernel_rfl) rfl ?_
  refine TWp.sr fun K0 hK0 => ?_
  simp -implicitDefEqProofs (disch := omega) only [seval, go_sem, hl0]
  repeat (with_reducible refine ⟨by first | omega | exact Keep.push _ _, ?_⟩)
  refine hK0 _ _ ?_; try (clear hK0; clear K0)
  refine TWp.seq_k fun K1 hK1 => ?_
  refine TWp.sr fun K2 hK2 => ?_
  simp -implicitDefEqProofs (disch := omega) only [seval, go_sem, hl0]
  repeat (with_reducible refine ⟨by first | omega | exact Keep.push _ _, ?_⟩)
  refine hK2 _ _ ?_; try (clear hK2; clear K2)
  refine TWp.block ?_
  refine TWp.loop (fun n T S' => ∃ i : Nat, n + i = s.length ∧ T 0 = .lit (.string (st s)) ∧ T 4 = .lit (.int .i64 (i : Int)) ∧ T 2 = .ptr S.n 0 ∧ S' = S.push (.cells 83 (dO (setOf (s.take i))))) (s.length) ?_ ?_
  · exact ⟨0, rfl, rfl, rfl, rfl, rfl⟩
  rintro n T S' ⟨i, hi, h0, h4, h2, rfl⟩
  have hl := setOf_len (s.take i)
  refine TWp.seq_k fun K3 hK3 => ?_
  refine TWp.sr fun K4 hK4 => ?_
  simp -implicitDefEqProofs (disch := omega) only [seval, go_sem, h0, h4, h2, hl, hl0]
  repeat (with_reducible refine ⟨by first | omega | exact Keep.push _ _, ?_⟩)
  refine hK4 _ _ ?_; try (clear hK4; clear K4)
  refine TWp.cond_k fun K5 hK5 => ?_
  simp -implicitDefEqProofs (disch := omega) only [seval, go_sem, h0, h4, h2, hl, hl0]
  refine hK5 _ (fun hb => ?_) (fun hb => ?_) <;> clear hK5 <;> clear K5
  · try (replace hb := of_decide_eq_true hb)
    refine TWp.skip ?_
    refine hK3 _ _ ?_; try (clear hK3; clear K3)
    refine TWp.seq_k fun K6 hK6 => ?_
    refine TWp.block ?_
    refine TWp.sr fun K7 hK7 => ?_
    simp -implicitDefEqProofs (disch := omega) only [seval, go_sem, h0, h4, h2, hl, hl0]
    repeat (with_reducible refine ⟨by first | omega | exact Keep.push _ _, ?_⟩)
    refine hK7 _ _ ?_; try (clear hK7; clear K7)
    refine TWp.seq_k fun K8 hK8 => ?_
    refine TWp.sr fun K9 hK9 => ?_
    simp -implicitDefEqProofs (disch := omega) only [seval, go_sem, h0, h4, h2, hl, hl0]
    repeat (with_reducible refine ⟨by first | omega | exact Keep.push _ _, ?_⟩)
    refine hK9 _ _ ?_; try (clear hK9; clear K9)
    refine TWp.cond_k fun K10 hK10 => ?_
    simp -implicitDefEqProofs (disch := omega) only [seval, go_sem, h0, h4, h2, hl, hl0]
    refine hK10 _ (fun hb => ?_) (fun hb => ?_) <;> clear hK10 <;> clear K10
    · exact absurd (hs _ (mem_getD (s := s) (i := i) (by omega))) (by have := of_decide_eq_true hb; omega)
    · try (replace hb := of_decide_eq_false hb)
      refine TWp.skip ?_
      refine hK8 _ _ ?_; try (clear hK8; clear K8)
      refine TWp.rk fun K12 hK12 => ?_
      simp -implicitDefEqProofs (disch := omega) only [seval, go_sem, h0, h4, h2, hl, hl0]
      repeat (with_reducible refine ⟨by first | omega | exact Keep.push _ _, ?_⟩)
      refine hK12 _ _ ?_; try (clear hK12; clear K12)
      refine hK6 _ _ ?_; try (clear hK6; clear K6)
      refine TWp.rk fun K13 hK13 => ?_
      simp -implicitDefEqProofs (disch := omega) only [seval, go_sem, h0, h4, h2, hl, hl0]
      repeat (with_reducible refine ⟨by first | omega | exact Keep.push _ _, ?_⟩)
      refine hK13 _ _ ?_; try (clear hK13; clear K13)
      exact ⟨n - 1, by omega, i + 1, by omega, h0, rfl, h2, by rw [setOf_next (by omega)]⟩
  · try (replace hb := of_decide_eq_false hb)
    refine TWp.exit ?_
    refine hK1 _ _ ?_; try (clear hK1; clear K1)
    refine TWp.sr fun K14 hK14 => ?_
    simp -implicitDefEqProofs (disch := omega) only [seval, go_sem, h0, h4, h2, hl, hl0]
    repeat (with_reducible refine ⟨by first | omega | exact Keep.push _ _, ?_⟩)
    refine hK14 _ _ ?_; try (clear hK14; clear K14)
    refine TWp.ret ⟨.inr rfl, [.agg (dO (setOf s)), .lit (.bool true)], ⟨resCell (by exact h2) ti83 (e := 83) (push_self _ _) rfl ?_, rfl, trivial⟩, rfl, Keep.push _ _⟩
    rw [dO_len]; exact hl0

theorem c_strings_asciiSet_contains {S : TS} {id : Nat} {bs : List Bool} {c : BitVec 8} {K : TV → TS → Prop} (hK : K (.lit (.bool (bs.getD c.toNat false))) S) (hS : S.objs id = .cells 83 (dO bs)) (hl : bs.length = 256) : TCall env 80 [.ptr id 0, .lit (.int .u8 (c.toNat : Int))] S K :=
  (c_strings_asciiSet_contains_ok S id bs hl c hS).mono fun t S' ⟨h1, h2⟩ => by rw [h1, h2]; exact hK
def cutL (p : List Bool) (s : Bs) : Bs := s.dropWhile fun c => p.getD c.toNat false
def cutR (p : List Bool) (s : Bs) : Bs := (cutL p s.reverse).reverse
theorem cutL_in {p : List Bool} {s : Bs} (h : 0 < s.length) (hp : p.getD (s.getD 0 0#8).toNat false = true) : cutL p (s.drop 1) = cutL p s := by
  cases s with
  | nil => simp at h
  | cons c s =>
    have h1 : p.getD c.toNat false = true := hp
    simp only [cutL, List.drop_one, List.tail_cons, List.dropWhile_cons, h1, if_true]
theorem cutL_out {p : List Bool} {s : Bs} (h : 0 < s.length → p.getD (s.getD 0 0#8).toNat false = false) : cutL p s = s := by
  cases s with
  | nil => rfl
  | cons c s =>
    have h1 : p.getD c.toNat false = false := h (by simp)
    simp only [cutL, List.dropWhile_cons, h1]
    simp
theorem last_eq {s : Bs} (h : 0 < s.length) : s.reverse = s.getD (s.length - 1) 0#8 :: (s.take (s.length - 1)).reverse := by
  have e : s = s.take (s.length - 1) ++ [s.getD (s.length - 1) 0#8] := by
    conv => lhs; rw [← List.take_append_drop (s.length - 1) s]
    congr 1
    rw [List.drop_eq_getElem_cons (by omega), List.drop_of_length_le (by omega), List.getD_eq_getElem?_getD, List.getElem?_eq_getElem (by omega)]
    rfl
  conv => lhs; rw [e]
  rw [List.reverse_append]; rfl
theorem cutR_in {p : List Bool} {s : Bs} (h : 0 < s.length) (hp : p.getD (s.getD (s.length - 1) 0#8).toNat false = true) : cutR p (s.take (s.length - 1)) = cutR p s := by
  unfold cutR
  rw [last_eq h]
  congr 1
  simp only [cutL, List.dropWhile_cons, hp, if_true]
theorem cutR_out {p : List Bool} {s : Bs} (h : 0 < s.length → p.getD (s.getD (s.length - 1) 0#8).toNat false = false) : cutR p s = s := by
  unfold cutR
  rw [cutL_out, List.reverse_reverse]
  intro h2
  rw [List.length_reverse] at h2
  rw [last_eq h2]
  exact h h2
theorem cut_all (p : List Bool) (s : Bs) : decide (cutL p (cutR p s) = []) = s.all fun c => p.getD c.toNat false := by
  have hl : ∀ s : Bs, cutL p s = [] ↔ ∀ c ∈ s, p.getD c.toNat false = true := by
    intro s
    induction s with
    | nil => simp [cutL]
    | cons c s ih =>
      by_cases h : p.getD c.toNat false = true
      · simp only [cutL, List.dropWhile_cons, h, if_true, List.mem_cons, forall_eq_or_imp, true_and]; exact ih
      · simp only [cutL, List.dropWhile_cons, List.mem_cons, forall_eq_or_imp, h]; simp
  have ho : ∀ s : Bs, cutL p s = [] ∨ ∃ c t, cutL p s = c :: t ∧ p.getD c.toNat false = false := by
    intro s
    induction s with
    | nil => simp [cutL]
    | cons c s ih =>
      by_cases h : p.getD c.toNat false = true
      · simp only [cutL, List.dropWhile_cons, h, if_true]; exact ih
      · exact .inr ⟨c, s, by simp only [cutL, List.dropWhile_cons, h]; simp, by simpa using h⟩
  rw [Bool.eq_iff_iff, decide_eq_true_eq, List.all_eq_true, hl]
  constructor
  · intro h
    rcases ho s.reverse with h1 | ⟨c, t, h1, h2⟩
    · exact fun c hc => (hl s.reverse).1 h1 c (by simpa using hc)
    · have := h c (by unfold cutR; rw [h1]; simp)
      rw [h2] at this; cases this
  · intro h c hc
    have h1 : cutL p s.reverse = [] := (hl s.reverse).2 fun c hc => h c (by simpa using hc)
    unfold cutR at hc
    rw [h1] at hc; simp at hc

set_option maxRecDepth 8000 in
set_option maxHeartbeats 1000000 in
theorem c_strings_trimLeftASCII_ok (S : TS) (s : Bs) (hm : s.length ≤ 1000000) (id : Nat) (bs : List Bool) (hl : bs.length = 256) (hS : S.objs id = .cells 83 (dO bs)) : TCall env 60 [.lit (.string (st s)), .ptr id 0] S fun r S' => r = .lit (.string (st (cutL bs s))) ∧ S' = S := by
  refine TCall.of 16 [.tmp 4] Tryd.func60 rfl rfl rfl rfl (by kernel_rfl) rfl ?_
  refine TWp.sr fun K0 hK0 => ?_
  simp -implicitDefEqProofs (disch := omega) only [seval, go_sem]
  repeat (with_reducible refine ⟨by first | omega | exact Keep.push _ _, ?_⟩)
  refine hK0 _ _ ?_; try (clear hK0; clear K0)
  refine TWp.seq_k fun K1 hK1 => ?_
  refine TWp.block ?_
  refine TWp.loop (fun n T S' => ∃ u : Bs, u.length = n ∧ u.length ≤ 1000000 ∧ T 0 = .lit (.string (st u)) ∧ T 1 = .ptr id 0 ∧ cutL bs u = cutL bs s ∧ S' = S) (s.length) ?_ ?_
  · exact ⟨s, rfl, hm, rfl, rfl, rfl, rfl⟩
  rintro n T S' ⟨u, hn, hum, h0, h1, he, rfl⟩
  refine TWp.seq_k fun K2 hK2 => ?_
  refine TWp.sr fun K3 hK3 => ?_
  simp -implicitDefEqProofs (disch := omega) only [seval, go_sem, h0, h1]
  repeat (with_reducible refine ⟨by first | omega | exact Keep.push _ _, ?_⟩)
  refine hK3 _ _ ?_; try (clear hK3; clear K3)
  refine TWp.cond_k fun K4 hK4 => ?_
  simp -implicitDefEqProofs (disch := omega) only [seval, go_sem, h0, h1]
  refine hK4 _ (fun hb => ?_) (fun hb => ?_) <;> clear hK4 <;> clear K4
  · try (replace hb := of_decide_eq_true hb)
    refine TWp.skip ?_
    refine hK2 _ _ ?_; try (clear hK2; clear K2)
    refine TWp.block ?_
    refine TWp.seq_k fun K5 hK5 => ?_
    refine TWp.sr fun K6 hK6 => ?_
    simp -implicitDefEqProofs (disch := omega) only [seval, go_sem, h0, h1]
    repeat (with_reducible refine ⟨by first | omega | exact Keep.push _ _, ?_⟩)
    refine c_strings_asciiSet_contains ?_ hS hl
    simp -implicitDefEqProofs (disch := omega) only [seval, go_sem, h0, h1]
    repeat (with_reducible refine ⟨by first | omega | exact Keep.push _ _, ?_⟩)
    refine hK6 _ _ ?_; try (clear hK6; clear K6)
    refine TWp.cond_k fun K7 hK7 => ?_
    simp -implicitDefEqProofs (disch := omega) only [seval, go_sem, h0, h1]
    refine hK7 _ (fun hb => ?_) (fun hb => ?_) <;> clear hK7 <;> clear K7
    · try (replace hb := of_decide_eq_true hb)
      refine TWp.exit ?_
      refine hK1 _ _ ?_; try (clear hK1; clear K1)
      refine TWp.sr fun K8 hK8 => ?_
      simp -implicitDefEqProofs (disch := omega) only [seval, go_sem, h0, h1]
      repeat (with_reducible refine ⟨by first | omega | exact Keep.push _ _, ?_⟩)
      refine hK8 _ _ ?_; try (clear hK8; clear K8)
      refine TWp.ret ⟨.inr rfl, [_], ⟨rfl, trivial⟩, ?_⟩
      exact ⟨by show TV.lit _ = _; rw [← he, cutL_out fun _ => by simpa using hb], rfl⟩
    · try (replace hb := of_decide_eq_false hb)
      refine TWp.skip ?_
      refine hK5 _ _ ?_; try (clear hK5; clear K5)
      refine TWp.rk fun K9 hK9 => ?_
      simp -implicitDefEqProofs (disch := omega) only [seval, go_sem, h0, h1]
      repeat (with_reducible refine ⟨by first | omega | exact Keep.push _ _, ?_⟩)
      refine hK9 _ _ ?_; try (clear hK9; clear K9)
      exact ⟨u.length - 1, by omega, u.drop 1, by simp, by simp; omega, rfl, h1, by rw [← he]; exact cutL_in (by omega) (by simpa using hb), rfl⟩
  · try (replace hb := of_decide_eq_false hb)
    refine TWp.exit ?_
    refine hK1 _ _ ?_; try (clear hK1; clear K1)
    refine TWp.sr fun K10 hK10 => ?_
    simp -implicitDefEqProofs (disch := omega) only [seval, go_sem, h0, h1]
    repeat (with_reducible refine ⟨by first | omega | exact Keep.push _ _, ?_⟩)
    refine hK10 _ _ ?_; try (clear hK10; clear K10)
    refine TWp.ret ⟨.inr rfl, [_], ⟨rfl, trivial⟩, ?_⟩
    exact ⟨by show TV.lit _ = _; rw [← he, cutL_out fun h => absurd h (by omega)], rfl⟩
set_option maxRecDepth 8000 in
set_option maxHeartbeats 1000000 in
theorem c_strings_trimRightASCII_ok (S : TS) (s : Bs) (hm : s.length ≤ 1000000) (id : Nat) (bs : List Bool) (hl : bs.length = 256) (hS : S.objs id = .cells 83 (dO bs)) : TCall env 61 [.lit (.string (st s)), .ptr id 0] S fun r S' => r = .lit (.string (st (cutR bs s))) ∧ S' = S := by
  refine TCall.of 22 [.tmp 4] Tryd.func61 rfl rfl rfl rfl (by kernel_rfl) rfl ?_
  refine TWp.sr fun K0 hK0 => ?_
  simp -implicitDefEqProofs (disch := omega) only [seval, go_sem]
  repeat (with_reducible refine ⟨by first | omega | exact Keep.push _ _, ?_⟩)
  refine hK0 _ _ ?_; try (clear hK0; clear K0)
  refine TWp.seq_k fun K1 hK1 => ?_
  refine TWp.block ?_
  refine TWp.loop (fun n T S' => ∃ u : Bs, u.length = n ∧ u.length ≤ 1000000 ∧ T 0 = .lit (.string (st u)) ∧ T 1 = .ptr id 0 ∧ cutR bs u = cutR bs s ∧ S' = S) (s.length) ?_ ?_
  · exact ⟨s, rfl, hm, rfl, rfl, rfl, rfl⟩
  rintro n T S' ⟨u, hn, hum, h0, h1, he, rfl⟩
  refine TWp.seq_k fun K2 hK2 => ?_
  refine TWp.sr fun K3 hK3 => ?_
  simp -implicitDefEqProofs (disch := omega) only [seval, go_sem, h0, h1]
  repeat (with_reducible refine ⟨by first | omega | exact Keep.push _ _, ?_⟩)
  refine hK3 _ _ ?_; try (clear hK3; clear K3)
  refine TWp.cond_k fun K4 hK4 => ?_
  simp -implicitDefEqProofs (disch := omega) only [seval, go_sem, h0, h1]
  refine hK4 _ (fun hb => ?_) (fun hb => ?_) <;> clear hK4 <;> clear K4
  · try (replace hb := of_decide_eq_true hb)
    refine TWp.skip ?_
    refine hK2 _ _ ?_; try (clear hK2; clear K2)
    refine TWp.block ?_
    refine TWp.seq_k fun K5 hK5 => ?_
    refine TWp.sr fun K6 hK6 => ?_
    simp -implicitDefEqProofs (disch := omega) only [seval, go_sem, h0, h1]
    repeat (with_reducible refine ⟨by first | omega | exact Keep.push _ _, ?_⟩)
    refine c_strings_asciiSet_contains ?_ hS hl
    simp -implicitDefEqProofs (disch := omega) only [seval, go_sem, h0, h1]
    repeat (with_reducible refine ⟨by first | omega | exact Keep.push _ _, ?_⟩)
    refine hK6 _ _ ?_; try (clear hK6; clear K6)
    refine TWp.cond_k fun K7 hK7 => ?_
    simp -implicitDefEqProofs (disch := omega) only [seval, go_sem, h0, h1]
    refine hK7 _ (fun hb => ?_) (fun hb => ?_) <;> clear hK7 <;> clear K7
    · try (replace hb := of_decide_eq_true hb)
      refine TWp.exit ?_
      refine hK1 _ _ ?_; try (clear hK1; clear K1)
      refine TWp.sr fun K8 hK8 => ?_
      simp -implicitDefEqProofs (disch := omega) only [seval, go_sem, h0, h1]
      repeat (with_reducible refine ⟨by first | omega | exact Keep.push _ _, ?_⟩)
      refine hK8 _ _ ?_; try (clear hK8; clear K8)
      refine TWp.ret ⟨.inr rfl, [_], ⟨rfl, trivial⟩, ?_⟩
      exact ⟨by show TV.lit _ = _; rw [← he, cutR_out fun _ => by simpa using hb], rfl⟩
    · try (replace hb := of_decide_eq_false hb)
      refine TWp.skip ?_
      refine hK5 _ _ ?_; try (clear hK5; clear K5)
      refine TWp.rk fun K9 hK9 => ?_
      simp -implicitDefEqProofs (disch := omega) only [seval, go_sem, h0, h1]
      repeat (with_reducible refine ⟨by first | omega | exact Keep.push _ _, ?_⟩)
      refine hK9 _ _ ?_; try (clear hK9; clear K9)
      exact ⟨u.length - 1, by omega, u.take (u.length - 1), by simp, by simp; omega, rfl, h1, by rw [← he]; exact cutR_in (by omega) (by simpa using hb), rfl⟩
  · try (replace hb := of_decide_eq_false hb)
    refine TWp.exit ?_
    refine hK1 _ _ ?_; try (clear hK1; clear K1)
    refine TWp.sr fun K10 hK10 => ?_
    simp -implicitDefEqProofs (disch := omega) only [seval, go_sem, h0, h1]
    repeat (with_reducible refine ⟨by first | omega | exact Keep.push _ _, ?_⟩)
    refine hK10 _ _ ?_; try (clear hK10; clear K10)
    refine TWp.ret ⟨.inr rfl, [_], ⟨rfl, trivial⟩, ?_⟩
    exact ⟨by show TV.lit _ = _; rw [← he, cutR_out fun h => absurd h (by omega)], rfl⟩

end Go.Proofs.YtiijiejncefpmaaDoor
namespace Go.Proofs.YtiijiejncefpmaaDoor
open Go.RowKit TL

theorem ren_dO (n : Nat) (L : List Nat) (bs : List Bool) : Ren n L (.agg (dO bs)) (.agg (dO bs)) := by
  refine .agg _ _ rfl fun j t t' h1 h2 => ?_
  rw [h1] at h2; injection h2 with h2; subst h2
  unfold dO at h1
  rw [List.getElem?_map] at h1
  obtain ⟨x, _, rfl⟩ := Option.map_eq_some_iff.1 h1
  exact .lit _
theorem c_strings_makeASCIISet {S : TS} {s : Bs} {K : TV → TS → Prop} (hK : K (.tup [.agg (dO (setOf s)), .lit (.bool true)]) S) (hs : ∀ c ∈ s, c.toNat < 128) (hm : s.length ≤ 1000000 := by omega) : TCall env 59 [.lit (.string (st s))] S K :=
  (TCall.pure (c_strings_makeASCIISet_ok S s hs hm) (.tupF (.cons (ren_dO _ _ _) (.cons (.lit _) .nil)))).mono fun t S' ⟨h1, h2⟩ => by rw [h1, h2]; exact hK
theorem c_strings_trimLeftASCII {S : TS} {s : Bs} {id : Nat} {bs : List Bool} {K : TV → TS → Prop} (hK : K (.lit (.string (st (cutL bs s)))) S) (hS : S.objs id = .cells 83 (dO bs)) (hl : bs.length = 256) (hm : s.length ≤ 1000000 := by omega) : TCall env 60 [.lit (.string (st s)), .ptr id 0] S K :=
  (c_strings_trimLeftASCII_ok S s hm id bs hl hS).mono fun t S' ⟨h1, h2⟩ => by rw [h1, h2]; exact hK
theorem c_strings_trimRightASCII {S : TS} {s : Bs} {id : Nat} {bs : List Bool} {K : TV → TS → Prop} (hK : K (.lit (.string (st (cutR bs s)))) S) (hS : S.objs id = .cells 83 (dO bs)) (hl : bs.length = 256) (hm : s.length ≤ 1000000 := by omega) : TCall env 61 [.lit (.string (st s)), .ptr id 0] S K :=
  (c_strings_trimRightASCII_ok S s hm id bs hl hS).mono fun t S' ⟨h1, h2⟩ => by rw [h1, h2]; exact hK
theorem cutL_len (p : List Bool) (s : Bs) : (cutL p s).length ≤ s.length := by
  unfold cutL
  exact (List.dropWhile_sublist _).length_le
theorem cutR_len (p : List Bool) (s : Bs) : (cutR p s).length ≤ s.length := by
  have := cutL_len p s.reverse
  simpa [cutR] using this

set_option maxRecDepth 8000 in
set_option maxHeartbeats 1000000 in
theorem c_strings_Trim_ok (S : TS) (s cut : Bs) (h2 : 2 ≤ cut.length) (hs : ∀ c ∈ cut, c.toNat < 128) (hm : s.length ≤ 1000000) (hm2 : cut.length ≤ 1000000) : TCall env 38 [.lit (.string (st s)), .lit (.string (st cut))] S fun r S' => r = .lit (.string (st (cutL (setOf cut) (cutR (setOf cut) s)))) ∧ Keep S S' := by
  have hl2 := no256_len
  have hl0 := setOf_len cut
  have hl1 := cutR_len (setOf cut) s
  refine TCall.of 43 [.tmp 4] Tryd.func38 rfl rfl rfl rfl (by kernel_rfl) rfl ?_
  refine TWp.sr fun K0 hK0 => ?_
  simp -implicitDefEqProofs (disch := omega) only [seval, go_sem, hl0]
  repeat (with_reducible refine ⟨by first | omega | exact Keep.push _ _, ?_⟩)
  refine hK0 _ _ ?_; try (clear hK0; clear K0)
  refine TWp.seq_k fun K1 hK1 => ?_
  refine TWp.sr fun K2 hK2 => ?_
  simp -implicitDefEqProofs (disch := omega) only [seval, go_sem, hl0]
  repeat' (first | with_reducible refine ⟨by first | omega | exact Keep.push _ _, ?_⟩ | (refine brT_split (fun hb => ?_) (fun hb => ?_) <;> (have hb' := hb; try simp only [decide_eq_true_eq, decide_eq_false_iff_not] at hb') <;> simp -implicitDefEqProofs (disch := omega) only [seval, go_sem, hb, hl0]))
  all_goals
    refine hK2 _ _ ?_; try (clear hK2; clear K2)
    refine TWp.cond_k fun K3 hK3 => ?_
    simp -implicitDefEqProofs (disch := omega) only [seval, go_sem, hl0]
    refine hK3 _ (fun hb => ?_) (fun hb => ?_) <;> clear hK3 <;> clear K3
    · try (replace hb := of_decide_eq_true hb)
      try (exact absurd hb (by decide))
      all_goals
        refine TWp.sr fun K4 hK4 => ?_
        simp -implicitDefEqProofs (disch := omega) only [seval, go_sem, hl0]
        repeat (with_reducible refine ⟨by first | omega | exact Keep.push _ _, ?_⟩)
        refine hK4 _ _ ?_; try (clear hK4; clear K4)
        refine TWp.ret ⟨.inr rfl, [_], ⟨rfl, trivial⟩, ?_⟩
        have e : s = [] := by first | exact of_decide_eq_true (by assumption) | exact absurd (by assumption) (by rintro rfl; simp at h2)
        subst e
        exact ⟨rfl, Keep.refl _⟩
    · try (replace hb := of_decide_eq_false hb)
      try (exact absurd hb (by decide))
      all_goals
        refine TWp.skip ?_
        refine hK1 _ _ ?_; try (clear hK1; clear K1)
        refine TWp.seq_k fun K5 hK5 => ?_
        refine TWp.sr fun K6 hK6 => ?_
        simp -implicitDefEqProofs (disch := omega) only [seval, go_sem, hl0]
        repeat' (first | with_reducible refine ⟨by first | omega | exact Keep.push _ _, ?_⟩ | (refine brT_split (fun hb => ?_) (fun hb => ?_) <;> (have hb' := hb; try simp only [decide_eq_true_eq, decide_eq_false_iff_not] at hb') <;> simp -implicitDefEqProofs (disch := omega) only [seval, go_sem, hb, hl0]))
        all_goals
          refine hK6 _ _ ?_; try (clear hK6; clear K6)
          refine TWp.cond_k fun K7 hK7 => ?_
          simp -implicitDefEqProofs (disch := omega) only [seval, go_sem, hl0]
          refine hK7 _ (fun hb => ?_) (fun hb => ?_) <;> clear hK7 <;> clear K7
          · try (replace hb := of_decide_eq_true hb)
            try (exact absurd hb (by decide))
            all_goals
              exfalso; omega
          · try (replace hb := of_decide_eq_false hb)
            try (exact absurd hb (by decide))
            all_goals
              refine TWp.skip ?_
              refine hK5 _ _ ?_; try (clear hK5; clear K5)
              refine TWp.seq_k fun K9 hK9 => ?_
              refine TWp.sr fun K10 hK10 => ?_
              simp -implicitDefEqProofs (disch := omega) only [seval, go_sem, hl0]
              repeat (with_reducible refine ⟨by first | omega | exact Keep.push _ _, ?_⟩)
              refine c_strings_makeASCIISet ?_ hs
              simp -implicitDefEqProofs (disch := omega) only [seval, go_sem, hl0]
              repeat (with_reducible refine ⟨by first | omega | exact Keep.push _ _, ?_⟩)
              refine hK10 _ _ ?_; try (clear hK10; clear K10)
              refine TWp.sr fun K11 hK11 => ?_
              simp -implicitDefEqProofs (disch := omega) only [seval, go_sem, hl0]
              repeat (with_reducible refine ⟨by first | omega | exact Keep.push _ _, ?_⟩)
              refine hK11 _ _ ?_; try (clear hK11; clear K11)
              refine TWp.cond_k fun K12 hK12 => ?_
              simp -implicitDefEqProofs (disch := omega) only [seval, go_sem, hl0]
              refine hK12 _ (fun hb => ?_) (fun hb => ?_) <;> clear hK12 <;> clear K12
              · try (replace hb := of_decide_eq_true hb)
                try (exact absurd hb (by decide))
                all_goals
                  refine TWp.sr fun K13 hK13 => ?_
                  simp -implicitDefEqProofs (disch := omega) only [seval, go_sem, hl0]
                  repeat (with_reducible refine ⟨by first | omega | exact Keep.push _ _, ?_⟩)
                  refine c_strings_trimRightASCII ?_ (push_self _ _) hl0
                  simp -implicitDefEqProofs (disch := omega) only [seval, go_sem, hl0]
                  repeat (with_reducible refine ⟨by first | omega | exact Keep.push _ _, ?_⟩)
                  refine c_strings_trimLeftASCII ?_ (push_self _ _) hl0
                  simp -implicitDefEqProofs (disch := omega) only [seval, go_sem, hl0]
                  repeat (with_reducible refine ⟨by first | omega | exact Keep.push _ _, ?_⟩)
                  refine hK13 _ _ ?_; try (clear hK13; clear K13)
                  refine TWp.ret ⟨.inr rfl, [_], ⟨rfl, trivial⟩, ?_⟩
                  exact ⟨rfl, Keep.push _ _⟩
              · try (replace hb := of_decide_eq_false hb)
                try (exact absurd hb (by decide))
                all_goals
                  refine TWp.skip ?_
                  refine hK9 _ _ ?_; try (clear hK9; clear K9)
                  exfalso; omega
theorem c_strings_Trim {S : TS} {s cut : Bs} {K : TV → TS → Prop} (hK : K (.lit (.string (st (cutL (setOf cut) (cutR (setOf cut) s))))) S) (hs : ∀ c ∈ cut, c.toNat < 128) (h2 : 2 ≤ cut.length := by omega) (hm : s.length ≤ 1000000 := by omega) (hm2 : cut.length ≤ 1000000 := by omega) : TCall env 38 [.lit (.string (st s)), .lit (.string (st cut))] S K :=
  (TCall.pure (c_strings_Trim_ok S s cut h2 hs hm hm2) (.lit _)).mono fun t S' ⟨h1, h2⟩ => by rw [h1, h2]; exact hK
theorem right_trim {s cut : Bs} (h1 : 1 ≤ s.length) (h2 : s.length ≤ 40) (h3 : (s.getD 0 0#8).toNat ≠ 46) (hX : ∀ c : BitVec 8, (setOf cut).getD c.toNat false = okc c) : rightS s = decide (cutL (setOf cut) (cutR (setOf cut) s) = []) := by
  rw [cut_all, rightS, decide_eq_true h1, decide_eq_true h2, decide_eq_true h3]
  simp only [Bool.true_and]
  congr 1
  funext c
  exact (hX c).symm

set_option maxRecDepth 8000 in
set_option maxHeartbeats 1000000 in
theorem c_name_Right_ok (S : TS) (s : Bs) : TCall env 14 [.lit (.string (st s))] S fun r S' => r = .lit (.bool (rightS s)) ∧ S' = S := by
  refine TCall.of 21 [.tmp 2] Tryd.func14 rfl rfl rfl rfl (by kernel_rfl) rfl ?_
  refine TWp.sr fun K0 hK0 => ?_
  simp -implicitDefEqProofs (disch := omega) only [seval, go_sem]
  repeat (with_reducible refine ⟨by first | omega | exact Keep.push _ _, ?_⟩)
  refine hK0 _ _ ?_; try (clear hK0; clear K0)
  refine TWp.sr fun K1 hK1 => ?_
  simp -implicitDefEqProofs (disch := omega) only [seval, go_sem]
  repeat' (first | with_reducible refine ⟨by first | omega | exact Keep.push _ _, ?_⟩ | (refine brT_split (fun hb => ?_) (fun hb => ?_) <;> (have hb' := hb; try simp only [decide_eq_true_eq, decide_eq_false_iff_not] at hb') <;> simp -implicitDefEqProofs (disch := omega) only [seval, go_sem, hb]))
  all_goals try (refine c_strings_Trim ?_ (by decide) (by decide) (by omega) (by decide); simp -implicitDefEqProofs (disch := omega) only [seval, go_sem])
  all_goals
    refine hK1 _ _ ?_; try (clear hK1; clear K1)
    refine TWp.ret ⟨.inr rfl, [_], ⟨rfl, trivial⟩, ?_⟩
    first | exact rb (right_no (by omega)) rfl | exact rb (right_trim (by omega) (by omega) (by omega) (by decide +kernel)) rfl

theorem c_name_Right {S : TS} {s : Bs} {K : TV → TS → Prop} (hK : K (.lit (.bool (rightS s))) S) : TCall env 14 [.lit (.string (st s))] S K :=
  (c_name_Right_ok S s).mono fun t S' ⟨h1, h2⟩ => by rw [h1, h2]; exact hK
theorem c_godownref07_Right {S : TS} {s : Bs} {K : TV → TS → Prop} (hK : K (.lit (.bool (rightS s))) S) : TCall env 15 [.lit (.string (st s))] S K :=
  (c_godownref07_Right_ok S s).mono fun t S' ⟨h1, h2⟩ => by rw [h1, h2]; exact hK

end Go.Proofs.YtiijiejncefpmaaDoor
namespace Go.Proofs.YtiijiejncefpmaaDoor
open Go.RowKit TL

def b32 : Bs := [48#8, 49#8, 50#8, 51#8, 52#8, 53#8, 54#8, 55#8, 56#8, 57#8, 97#8, 98#8, 99#8, 100#8, 102#8, 103#8, 104#8, 105#8, 106#8, 107#8, 108#8, 109#8, 110#8, 112#8, 113#8, 114#8, 115#8, 118#8, 119#8, 120#8, 121#8, 122#8]
theorem b32_lit : (⟨#[48, 49, 50, 51, 52, 53, 54, 55, 56, 57, 97, 98, 99, 100, 102, 103, 104, 105, 106, 107, 108, 109, 110, 112, 113, 114, 115, 118, 119, 120, 121, 122]⟩ : ByteArray) = st b32 := rfl
theorem b32_len : b32.length = 32 := rfl
attribute [go_sem high] b32_lit
attribute [go_sem] b32_len

def idxS (s : Bs) (c : BitVec 8) : Int :=
  match (List.range s.length).find? fun i => s.getD i 0#8 == c with
  | some i => i
  | none => -1
theorem find_congr {α : Type} {p q : α → Bool} : ∀ {l : List α}, (∀ x ∈ l, p x = q x) → l.find? p = l.find? q
  | [], _ => rfl
  | x :: l, h => by
    simp only [List.find?_cons, h x (by simp)]
    rw [find_congr (l := l) fun y hy => h y (by simp [hy])]
theorem firstIdx_st (s : Bs) (c : BitVec 8) : firstIdx (st s) (c.toNat : Int).toNat.toUInt8 = idxS s c := by
  unfold firstIdx idxS
  suffices key : (List.range s.length).find? (fun i => (st s)[i]! == (c.toNat : Int).toNat.toUInt8) = (List.range s.length).find? (fun i => s.getD i 0#8 == c)  by
    rw [st_size, key]
    generalize (List.range s.length).find? (fun i => s.getD i 0#8 == c) = o
    cases o <;> rfl
  refine find_congr fun i hi => ?_
  rw [List.mem_range] at hi
  have h1 : (st s)[i]! = UInt8.ofBitVec (s.getD i 0#8) := by
    rw [getElem!_pos (st s) i (by rw [st_size]; exact hi), List.getD_eq_getElem?_getD, List.getElem?_eq_getElem hi]
    show (st s).data[i]'_ = _
    simp only [st, List.getElem_toArray, List.getElem_map]
    rfl
  rw [h1, Int.toNat_natCast, Bool.eq_iff_iff, beq_iff_eq, beq_iff_eq]
  have h2 : c.toNat.toUInt8 = UInt8.ofBitVec c := by
    apply UInt8.toNat_inj.1
    show c.toNat % 256 = c.toNat
    exact Nat.mod_eq_of_lt c.isLt
  rw [h2]
  exact ⟨fun h => by have := congrArg UInt8.toBitVec h; simpa using this, fun h => by rw [h]⟩
theorem idxS_some {s : Bs} {c : BitVec 8} {i : Nat} (h : i < s.length) (hc : s.getD i 0#8 = c) (hn : ∀ j, j < i → s.getD j 0#8 ≠ c) : idxS s c = i := by
  unfold idxS
  have : (List.range s.length).find? (fun i => s.getD i 0#8 == c) = some i := by
    rw [List.find?_range_eq_some]
    exact ⟨by rw [hc]; simp, List.mem_range.2 h, fun j hj => by simpa using hn j hj⟩
  rw [this]
theorem idxS_none {s : Bs} {c : BitVec 8} (hn : ∀ j, j < s.length → s.getD j 0#8 ≠ c) : idxS s c = -1 := by
  unfold idxS
  have : (List.range s.length).find? (fun i => s.getD i 0#8 == c) = none := by
    rw [List.find?_eq_none]
    intro j hj
    simpa using hn j (List.mem_range.1 hj)
  rw [this]

theorem TCall.of_extern {E : Env} {f : FuncId} {fn : Func} {e : Array Value → Sem Value} {args : List TV} {S : TS} {R : TV → TS → Prop} (hf : E.P.funcs[f]? = some fn) (hname : (fn.name == "runtime.NumGoroutine") = false) (hb : fn.body.isNone = true) (hn : Extern.findNext fn = none) (he : Extern.find fn = some e)
    (h : ∀ w0 c w vs, Ok E w0 c S w → RdCells c w args vs → ∃ v w', (e vs).run E.P w = .ok v w' ∧ Fin E w0 c w R v w') : TCall E f args S R := fun w0 c w vs hk hv => by
  obtain ⟨v, w', h1, h2⟩ := h w0 c w vs hk hv
  exact .inr ⟨v, w', by rw [run_callFunc_extern hf hname hb hn he, h1]; rfl, h2⟩
theorem rdCells_two {c : Cx} {w : World} {a b : Value} {vs : Array Value} (h : RdCells c w [.lit a, .lit b] vs) : vs = #[a, b] := by
  have h0 := h.size
  apply Array.ext
  · simpa using h0
  · intro i h1 h2
    have h3 : i < 2 := by simpa using h2
    match i, h3 with
    | 0, _ => exact (h.rd 0 _ _ rfl (Array.getElem?_eq_getElem h1)).lit_inv
    | 1, _ => exact (h.rd 1 _ _ rfl (Array.getElem?_eq_getElem h1)).lit_inv
theorem c_bytealg_IndexByteString {S : TS} {s : Bs} {c : BitVec 8} {K : TV → TS → Prop} (hK : K (.lit (.int .i64 (idxS s c))) S) : TCall env 100 [.lit (.string (st s)), .lit (.int .u8 (c.toNat : Int))] S K := by
  refine TCall.of_extern (e := Extern.BytealgIndexByte.indexByte) Tryd.func100 rfl rfl (by kernel_rfl) (by kernel_rfl) fun w0 c0 w vs hk hv => ?_
  rw [rdCells_two hv]
  refine ⟨_, _, run_indexByte_string (P := env.P) (st s) (c.toNat : Int) w, _, c0, S, hk, Mono.refl _ _, ?_, hK⟩
  rw [firstIdx_st]
  exact .lit _

set_option maxRecDepth 8000 in
set_option maxHeartbeats 1000000 in
theorem c_stringslite_IndexByte_ok (S : TS) (s : Bs) (c : BitVec 8) : TCall env 79 [.lit (.string (st s)), .lit (.int .u8 (c.toNat : Int))] S fun r S' => r = .lit (.int .i64 (idxS s c)) ∧ S' = S := by
  refine TCall.of 8 [.tmp 4] Tryd.func79 rfl rfl rfl rfl (by kernel_rfl) rfl ?_
  refine TWp.sr fun K0 hK0 => ?_
  simp -implicitDefEqProofs (disch := omega) only [seval, go_sem]
  repeat (with_reducible refine ⟨by first | omega | exact Keep.push _ _, ?_⟩)
  refine hK0 _ _ ?_; try (clear hK0; clear K0)
  refine TWp.sr fun K1 hK1 => ?_
  simp -implicitDefEqProofs (disch := omega) only [seval, go_sem]
  repeat (with_reducible refine ⟨by first | omega | exact Keep.push _ _, ?_⟩)
  refine c_bytealg_IndexByteString ?_
  simp -implicitDefEqProofs (disch := omega) only [seval, go_sem]
  repeat (with_reducible refine ⟨by first | omega | exact Keep.push _ _, ?_⟩)
  refine hK1 _ _ ?_; try (clear hK1; clear K1)
  refine TWp.ret ⟨.inr rfl, [_], ⟨rfl, trivial⟩, ?_⟩
  exact ⟨rfl, rfl⟩
theorem c_stringslite_IndexByte {S : TS} {s : Bs} {c : BitVec 8} {K : TV → TS → Prop} (hK : K (.lit (.int .i64 (idxS s c))) S) : TCall env 79 [.lit (.string (st s)), .lit (.int .u8 (c.toNat : Int))] S K :=
  (c_stringslite_IndexByte_ok S s c).mono fun t S' ⟨h1, h2⟩ => by rw [h1, h2]; exact hK

set_option maxRecDepth 8000 in
set_option maxHeartbeats 1000000 in
theorem c_strings_IndexByte_ok (S : TS) (s : Bs) (c : BitVec 8) : TCall env 55 [.lit (.string (st s)), .lit (.int .u8 (c.toNat : Int))] S fun r S' => r = .lit (.int .i64 (idxS s c)) ∧ S' = S := by
  refine TCall.of 8 [.tmp 4] Tryd.func55 rfl rfl rfl rfl (by kernel_rfl) rfl ?_
  refine TWp.sr fun K0 hK0 => ?_
  simp -implicitDefEqProofs (disch := omega) only [seval, go_sem]
  repeat (with_reducible refine ⟨by first | omega | exact Keep.push _ _, ?_⟩)
  refine hK0 _ _ ?_; try (clear hK0; clear K0)
  refine TWp.sr fun K1 hK1 => ?_
  simp -implicitDefEqProofs (disch := omega) only [seval, go_sem]
  repeat (with_reducible refine ⟨by first | omega | exact Keep.push _ _, ?_⟩)
  refine c_stringslite_IndexByte ?_
  simp -implicitDefEqProofs (disch := omega) only [seval, go_sem]
  repeat (with_reducible refine ⟨by first | omega | exact Keep.push _ _, ?_⟩)
  refine hK1 _ _ ?_; try (clear hK1; clear K1)
  refine TWp.ret ⟨.inr rfl, [_], ⟨rfl, trivial⟩, ?_⟩
  exact ⟨rfl, rfl⟩
theorem c_strings_IndexByte {S : TS} {s : Bs} {c : BitVec 8} {K : TV → TS → Prop} (hK : K (.lit (.int .i64 (idxS s c))) S) : TCall env 55 [.lit (.string (st s)), .lit (.int .u8 (c.toNat : Int))] S K :=
  (c_strings_IndexByte_ok S s c).mono fun t S' ⟨h1, h2⟩ => by rw [h1, h2]; exact hK

set_option maxRecDepth 8000 in
set_option maxHeartbeats 1000000 in
theorem c_godownref03_value_ok (S : TS) (c : BitVec 8) : TCall env 56 [.lit (.int .u8 (c.toNat : Int))] S fun r S' => r = .lit (.int .i64 (idxS b32 c)) ∧ S' = S := by
  have hl := b32_len
  refine TCall.of 13 [.tmp 2] Tryd.func56 rfl rfl rfl rfl (by kernel_rfl) rfl ?_
  refine TWp.sr fun K0 hK0 => ?_
  simp -implicitDefEqProofs (disch := omega) only [seval, go_sem]
  repeat (with_reducible refine ⟨by first | omega | exact Keep.push _ _, ?_⟩)
  refine hK0 _ _ ?_; try (clear hK0; clear K0)
  refine TWp.seq_k fun K1 hK1 => ?_
  refine TWp.sr fun K2 hK2 => ?_
  simp -implicitDefEqProofs (disch := omega) only [seval, go_sem]
  repeat (with_reducible refine ⟨by first | omega | exact Keep.push _ _, ?_⟩)
  refine hK2 _ _ ?_; try (clear hK2; clear K2)
  refine TWp.block ?_
  refine TWp.loop (fun n T S' => ∃ i : Nat, n + i = 32 ∧ T 0 = .lit (.int .u8 (c.toNat : Int)) ∧ T 3 = .lit (.int .i64 (i : Int)) ∧ (∀ j, j < i → b32.getD j 0#8 ≠ c) ∧ S' = S) (32) ?_ ?_
  · exact ⟨0, rfl, rfl, rfl, fun j hj => absurd hj (by omega), rfl⟩
  rintro n T S' ⟨i, hi, h0, h3, ha, hS⟩
  refine TWp.seq_k fun K3 hK3 => ?_
  refine TWp.sr fun K4 hK4 => ?_
  simp -implicitDefEqProofs (disch := omega) only [seval, go_sem, h0, h3]
  repeat (with_reducible refine ⟨by first | omega | exact Keep.push _ _, ?_⟩)
  refine hK4 _ _ ?_; try (clear hK4; clear K4)
  refine TWp.cond_k fun K5 hK5 => ?_
  simp -implicitDefEqProofs (disch := omega) only [seval, go_sem, h0, h3]
  refine hK5 _ (fun hb => ?_) (fun hb => ?_) <;> clear hK5 <;> clear K5
  · try (replace hb := of_decide_eq_true hb)
    refine TWp.skip ?_
    refine hK3 _ _ ?_; try (clear hK3; clear K3)
    refine TWp.seq_k fun K6 hK6 => ?_
    refine TWp.block ?_
    refine TWp.sr fun K7 hK7 => ?_
    simp -implicitDefEqProofs (disch := omega) only [seval, go_sem, h0, h3]
    repeat (with_reducible refine ⟨by first | omega | exact Keep.push _ _, ?_⟩)
    refine hK7 _ _ ?_; try (clear hK7; clear K7)
    refine TWp.cond_k fun K8 hK8 => ?_
    simp -implicitDefEqProofs (disch := omega) only [seval, go_sem, h0, h3]
    refine hK8 _ (fun hb => ?_) (fun hb => ?_) <;> clear hK8 <;> clear K8
    · try (replace hb := of_decide_eq_true hb)
      refine TWp.sr fun K9 hK9 => ?_
      simp -implicitDefEqProofs (disch := omega) only [seval, go_sem, h0, h3]
      repeat (with_reducible refine ⟨by first | omega | exact Keep.push _ _, ?_⟩)
      refine hK9 _ _ ?_; try (clear hK9; clear K9)
      refine TWp.ret ⟨.inr rfl, [_], ⟨rfl, trivial⟩, ?_⟩
      exact ⟨by show TV.lit _ = _; rw [idxS_some (by rw [b32_len]; omega) (BitVec.eq_of_toNat_eq (by omega)) ha], hS⟩
    · try (replace hb := of_decide_eq_false hb)
      refine TWp.skip ?_
      refine hK6 _ _ ?_; try (clear hK6; clear K6)
      refine TWp.rk fun K10 hK10 => ?_
      simp -implicitDefEqProofs (disch := omega) only [seval, go_sem, h0, h3]
      repeat (with_reducible refine ⟨by first | omega | exact Keep.push _ _, ?_⟩)
      refine hK10 _ _ ?_; try (clear hK10; clear K10)
      exact ⟨n - 1, by omega, i + 1, by omega, h0, rfl, fun j hj => by
        rcases Nat.lt_succ_iff_lt_or_eq.1 hj with h | h
        · exact ha j h
        · rw [h]; intro e; exact hb (by rw [e]), hS⟩
  · try (replace hb := of_decide_eq_false hb)
    refine TWp.exit ?_
    refine hK1 _ _ ?_; try (clear hK1; clear K1)
    refine TWp.sr fun K11 hK11 => ?_
    simp -implicitDefEqProofs (disch := omega) only [seval, go_sem, h0, h3]
    repeat (with_reducible refine ⟨by first | omega | exact Keep.push _ _, ?_⟩)
    refine hK11 _ _ ?_; try (clear hK11; clear K11)
    refine TWp.ret ⟨.inr rfl, [_], ⟨rfl, trivial⟩, ?_⟩
    exact ⟨by show TV.lit _ = _; rw [idxS_none fun j hj => ha j (by rw [b32_len] at hj; omega)], hS⟩

end Go.Proofs.YtiijiejncefpmaaDoor
namespace Go.Proofs.YtiijiejncefpmaaDoor
open Go.RowKit TL

theorem quoN (P : Program) (ty : TypeId) (a : Nat) (b : Int) (h : 0 < b ∧ a < 9223372036854775808) : tvBin P .quo ty (.int .i64 (a : Int)) (.int .i64 b) = some (.int .i64 ((a / b.toNat : Nat) : Int)) := by
  obtain ⟨n, rfl⟩ : ∃ n : Nat, b = (n : Int) := ⟨b.toNat, by omega⟩
  have h2 : a / n ≤ a := Nat.div_le_self a n
  rw [quoI _ _ _ _ (by omega) (by rw [← Int.ofNat_tdiv]; generalize a / n = q at h2 ⊢; omega), ← Int.ofNat_tdiv]
  rfl
attribute [go_sem high] quoN
def bitN (p : Bs) (i : Nat) : Nat := if i / 8 < p.length then ((p.getD (i / 8) 0#8) >>> (7 - i % 8)).toNat % 2 else 0
set_option maxRecDepth 8000 in
set_option maxHeartbeats 1000000 in
theorem c_godownref03_bit_ok (S : TS) (g : Tag) (p : Bs) (i : Nat) (hp : p.length ≤ 1000000) (hi : i ≤ 10000000) : TCall env 66 [.sl g 1 (dB p), .lit (.int .i64 (i : Int))] S fun r S' => r = .lit (.int .i64 (bitN p i : Int)) ∧ S' = S := by
  refine TCall.of 21 [.tmp 4] Tryd.func66 rfl rfl rfl rfl (by kernel_rfl) rfl ?_
  refine TWp.sr fun K0 hK0 => ?_
  simp -implicitDefEqProofs (disch := omega) only [seval, go_sem]
  repeat (with_reducible refine ⟨by first | omega | exact Keep.push _ _, ?_⟩)
  refine hK0 _ _ ?_; try (clear hK0; clear K0)
  refine TWp.seq_k fun K1 hK1 => ?_
  refine TWp.sr fun K2 hK2 => ?_
  simp -implicitDefEqProofs (disch := omega) only [seval, go_sem]
  repeat (with_reducible refine ⟨by first | omega | exact Keep.push _ _, ?_⟩)
  refine hK2 _ _ ?_; try (clear hK2; clear K2)
  refine TWp.cond_k fun K3 hK3 => ?_
  simp -implicitDefEqProofs (disch := omega) only [seval, go_sem]
  refine hK3 _ (fun hb => ?_) (fun hb => ?_) <;> clear hK3 <;> clear K3
  · try (replace hb := of_decide_eq_true hb)
    refine TWp.sr fun K4 hK4 => ?_
    simp -implicitDefEqProofs (disch := omega) only [seval, go_sem]
    repeat (with_reducible refine ⟨by first | omega | exact Keep.push _ _, ?_⟩)
    refine hK4 _ _ ?_; try (clear hK4; clear K4)
    refine TWp.ret ⟨.inr rfl, [_], ⟨rfl, trivial⟩, ?_⟩
    exact ⟨by show TV.lit _ = _; rw [bitN, if_neg (by omega)]; rfl, rfl⟩
  · try (replace hb := of_decide_eq_false hb)
    refine TWp.skip ?_
    refine hK1 _ _ ?_; try (clear hK1; clear K1)
    refine TWp.sr fun K5 hK5 => ?_
    simp -implicitDefEqProofs (disch := omega) only [seval, go_sem]
    repeat (with_reducible refine ⟨by first | omega | exact Keep.push _ _, ?_⟩)
    refine hK5 _ _ ?_; try (clear hK5; clear K5)
    refine TWp.ret ⟨.inr rfl, [_], ⟨rfl, trivial⟩, ?_⟩
    refine ⟨?_, rfl⟩
    show TV.lit _ = _
    rw [bitN, if_pos (by omega)]
theorem c_godownref03_bit {S : TS} {g : Tag} {p : Bs} {i : Nat} {K : TV → TS → Prop} (hK : K (.lit (.int .i64 (bitN p i : Int))) S) (hp : p.length ≤ 1000000 := by omega) (hi : i ≤ 10000000 := by omega) : TCall env 66 [.sl g 1 (dB p), .lit (.int .i64 (i : Int))] S K :=
  (c_godownref03_bit_ok S g p i hp hi).mono fun t S' ⟨h1, h2⟩ => by rw [h1, h2]; exact hK

def bitsN (p : Bs) (i : Nat) : Nat → Nat
  | 0 => 0
  | k + 1 => 2 * bitsN p i k + bitN p (i + k)
theorem bitN_lt (p : Bs) (i : Nat) : bitN p i < 2 := by unfold bitN; split <;> omega
theorem bitsN_lt (p : Bs) (i : Nat) : ∀ k, bitsN p i k < 2 ^ k
  | 0 => by simp [bitsN]
  | k + 1 => by have := bitsN_lt p i k; have := bitN_lt p (i + k); simp only [bitsN, Nat.pow_succ]; omega
def txtN (p : Bs) : Nat → Bs
  | 0 => []
  | j + 1 => txtN p j ++ [b32.getD (bitsN p (5 * j) 5) 0#8]
/-- Bytes as letters. -/
def txtS (p : Bs) : Bs := txtN p ((8 * p.length + 4) / 5)
theorem txtN_len (p : Bs) : ∀ j, (txtN p j).length = j
  | 0 => rfl
  | j + 1 => by simp [txtN, txtN_len p j]

set_option maxRecDepth 8000 in
set_option maxHeartbeats 1000000 in
theorem c_godownref03_Text_ok (S : TS) (g : Tag) (p : Bs) (hp : p.length ≤ 100000) : TCall env 42 [.sl g 1 (dB p)] S fun r S' => r = .lit (.string (st (txtS p))) ∧ Keep S S' := by
  have hl := b32_len
  refine TCall.of 33 [.tmp 2] Tryd.func42 rfl rfl rfl rfl (by kernel_rfl) rfl ?_
  refine TWp.sr fun K0 hK0 => ?_
  simp -implicitDefEqProofs (disch := omega) only [seval, go_sem]
  repeat (with_reducible refine ⟨by first | omega | exact Keep.push _ _, ?_⟩)
  refine hK0 _ _ ?_; try (clear hK0; clear K0)
  refine TWp.sr fun K1 hK1 => ?_
  simp -implicitDefEqProofs (disch := omega) only [seval, go_sem]
  repeat (with_reducible refine ⟨by first | omega | exact Keep.push _ _, ?_⟩)
  refine hK1 _ _ ?_; try (clear hK1; clear K1)
  refine TWp.seq_k fun K2 hK2 => ?_
  refine TWp.sr fun K3 hK3 => ?_
  simp -implicitDefEqProofs (disch := omega) only [seval, go_sem]
  repeat (with_reducible refine ⟨by first | omega | exact Keep.push _ _, ?_⟩)
  refine hK3 _ _ ?_; try (clear hK3; clear K3)
  refine TWp.block ?_
  refine TWp.asRow 3 1 rfl (.inl rfl) ?_
  refine TWp.loop (fun n T S' => ∃ j k, n + 5 * j = 8 * p.length + 4 ∧ T 0 = .sl g 1 (dB p) ∧ T 3 = .sl (.own k) 1 (dB (txtN p j)) ∧ T 4 = .lit (.int .i64 ((5 * j : Nat) : Int)) ∧ S.n ≤ k ∧ S'.objs k = .lin ∧ Keep S S') (8 * p.length + 4) ?_ ?_
  · exact ⟨0, S.n, rfl, rfl, rfl, rfl, Nat.le_refl _, push_self _ _, Keep.push _ _⟩
  rintro n T S' ⟨j, k, hj, h0, h3, h4, hk, ho, hS⟩
  have htl := txtN_len p j
  obtain ⟨S1, hS1⟩ : ∃ S1, S1 = S' := ⟨_, rfl⟩
  refine TWp.seq_k fun K4 hK4 => ?_
  refine TWp.sr fun K5 hK5 => ?_
  simp -implicitDefEqProofs (disch := omega) only [seval, go_sem, h0, h3, h4, ho, htl]
  repeat (with_reducible refine ⟨by first | omega | exact Keep.push _ _, ?_⟩)
  refine hK5 _ _ ?_; try (clear hK5; clear K5)
  refine TWp.cond_k fun K6 hK6 => ?_
  simp -implicitDefEqProofs (disch := omega) only [seval, go_sem, h0, h3, h4, ho, htl]
  refine hK6 _ (fun hb => ?_) (fun hb => ?_) <;> clear hK6 <;> clear K6
  · try (replace hb := of_decide_eq_true hb)
    refine TWp.skip ?_
    refine hK4 _ _ ?_; try (clear hK4; clear K4)
    refine TWp.seq_k fun K7 hK7 => ?_
    refine TWp.block ?_
    refine TWp.sr fun K8 hK8 => ?_
    simp -implicitDefEqProofs (disch := omega) only [seval, go_sem, h0, h3, h4, ho, htl]
    repeat (with_reducible refine ⟨by first | omega | exact Keep.push _ _, ?_⟩)
    refine hK8 _ _ ?_; try (clear hK8; clear K8)
    refine TWp.seq_k fun K9 hK9 => ?_
    refine TWp.sr fun K10 hK10 => ?_
    simp -implicitDefEqProofs (disch := omega) only [seval, go_sem, h0, h3, h4, ho, htl]
    repeat (with_reducible refine ⟨by first | omega | exact Keep.push _ _, ?_⟩)
    refine hK10 _ _ ?_; try (clear hK10; clear K10)
    refine TWp.block ?_
    refine TWp.loop (fun n T S' => ∃ q, n + q = 5 ∧ T 0 = .sl g 1 (dB p) ∧ T 3 = .sl (.own k) 1 (dB (txtN p j)) ∧ T 4 = .lit (.int .i64 ((5 * j : Nat) : Int)) ∧ T 5 = .lit (.int .i64 (bitsN p (5 * j) q : Int)) ∧ T 6 = .lit (.int .i64 (q : Int)) ∧ S' = S1) (5) ?_ ?_
    · exact ⟨0, rfl, h0, h3, h4, rfl, rfl, hS1.symm⟩
    rintro n T S' ⟨q, hq, h0, h3, h4, h5, h6, hS2⟩
    have hbl := bitsN_lt p (5 * j) q
    have hbl2 : 2 ^ q ≤ 2 ^ 5 := Nat.pow_le_pow_right (by omega) (by omega)
    have hbl3 := bitN_lt p (5 * j + q)
    rw [hS1] at hS2
    rw [← hS2] at ho hS
    refine TWp.seq_k fun K11 hK11 => ?_
    refine TWp.sr fun K12 hK12 => ?_
    simp -implicitDefEqProofs (disch := omega) only [seval, go_sem, h0, h3, h4, h5, h6, ho, htl]
    repeat (with_reducible refine ⟨by first | omega | exact Keep.push _ _, ?_⟩)
    refine hK12 _ _ ?_; try (clear hK12; clear K12)
    refine TWp.cond_k fun K13 hK13 => ?_
    simp -implicitDefEqProofs (disch := omega) only [seval, go_sem, h0, h3, h4, h5, h6, ho, htl]
    refine hK13 _ (fun hb => ?_) (fun hb => ?_) <;> clear hK13 <;> clear K13
    · try (replace hb := of_decide_eq_true hb)
      refine TWp.skip ?_
      refine hK11 _ _ ?_; try (clear hK11; clear K11)
      refine TWp.seq_k fun K14 hK14 => ?_
      refine TWp.block ?_
      refine TWp.rk fun K15 hK15 => ?_
      simp -implicitDefEqProofs (disch := omega) only [seval, go_sem, h0, h3, h4, h5, h6, ho, htl]
      repeat (with_reducible refine ⟨by first | omega | exact Keep.push _ _, ?_⟩)
      refine c_godownref03_bit ?_
      simp -implicitDefEqProofs (disch := omega) only [seval, go_sem, h0, h3, h4, h5, h6, ho, htl]
      repeat (with_reducible refine ⟨by first | omega | exact Keep.push _ _, ?_⟩)
      refine hK15 _ _ ?_; try (clear hK15; clear K15)
      refine hK14 _ _ ?_; try (clear hK14; clear K14)
      refine TWp.rk fun K16 hK16 => ?_
      simp -implicitDefEqProofs (disch := omega) only [seval, go_sem, h0, h3, h4, h5, h6, ho, htl]
      repeat (with_reducible refine ⟨by first | omega | exact Keep.push _ _, ?_⟩)
      refine hK16 _ _ ?_; try (clear hK16; clear K16)
      exact ⟨n - 1, by omega, q + 1, by omega, h0, h3, h4, rfl, rfl, hS2.trans hS1.symm⟩
    · try (replace hb := of_decide_eq_false hb)
      refine TWp.exit ?_
      refine hK9 _ _ ?_; try (clear hK9; clear K9)
      refine TWp.rk fun K17 hK17 => ?_
      simp -implicitDefEqProofs (disch := omega) only [seval, go_sem, h0, h3, h4, h5, h6, ho, htl]
      repeat (with_reducible refine ⟨by first | omega | exact Keep.push _ _, ?_⟩)
      refine hK17 _ _ ?_; try (clear hK17; clear K17)
      refine hK7 _ _ ?_; try (clear hK7; clear K7)
      refine TWp.rk fun K18 hK18 => ?_
      simp -implicitDefEqProofs (disch := omega) only [seval, go_sem, h0, h3, h4, h5, h6, ho, htl]
      repeat (with_reducible refine ⟨by first | omega | exact Keep.push _ _, ?_⟩)
      refine hK18 _ _ ?_; try (clear hK18; clear K18)
      have h5' : q = 5 := by omega
      subst h5'
      exact ⟨8 * p.length + 4 - 5 * (j + 1), by omega, j + 1, S'.n, by omega, h0, by show TV.sl _ _ _ = _; rw [txtN, dB_app]; rfl, by show TV.lit _ = _; rw [Nat.mul_succ], hS.1, push_self (S'.set k .gone) _, (hS.set hk _).push' _⟩
  · try (replace hb := of_decide_eq_false hb)
    refine TWp.exit ?_
    refine hK2 _ _ ?_; try (clear hK2; clear K2)
    refine TWp.sr fun K19 hK19 => ?_
    simp -implicitDefEqProofs (disch := omega) only [seval, go_sem, h0, h3, h4, ho, htl]
    repeat (with_reducible refine ⟨by first | omega | exact Keep.push _ _, ?_⟩)
    refine hK19 _ _ ?_; try (clear hK19; clear K19)
    refine TWp.ret ⟨.inr rfl, [_], ⟨rfl, trivial⟩, ?_⟩
    exact ⟨by show TV.lit _ = _; rw [txtS, show (8 * p.length + 4) / 5 = j by omega], hS⟩

theorem c_godownref03_Text {S : TS} {g : Tag} {p : Bs} {K : TV → TS → Prop} (hK : K (.lit (.string (st (txtS p)))) S) (hp : p.length ≤ 100000 := by omega) : TCall env 42 [.sl g 1 (dB p)] S K :=
  (TCall.pure (c_godownref03_Text_ok S g p hp) (.lit _)).mono fun t S' ⟨h1, h2⟩ => by rw [h1, h2]; exact hK

end Go.Proofs.YtiijiejncefpmaaDoor
namespace Go.Proofs.YtiijiejncefpmaaDoor
open Go.RowKit TL

theorem shrN (P : Program) (ty : TypeId) (a : Nat) {k' : IntKind} (b : Int) (h : 0 ≤ b ∧ b < 64) : tvBin P .shr ty (.int .i64 (a : Int)) (.int k' b) = some (.int .i64 ((a >>> b.toNat : Nat) : Int)) := by
  obtain ⟨n, rfl⟩ : ∃ n : Nat, b = (n : Int) := ⟨b.toNat, by omega⟩
  simp only [tvBin]
  rw [if_pos (by simp)]
  simp only [tvShift]
  rw [if_neg (by omega)]
  have h1 : min (n : Int).toNat IntKind.i64.bits = n := by
    show min (n : Int).toNat 64 = n
    rw [Int.toNat_natCast]; omega
  have h3 : ((a : Int)).fdiv (2 ^ n) = ((a >>> n : Nat) : Int) := by
    rw [Int.fdiv_eq_ediv_of_nonneg _ (Int.le_of_lt (Int.pow_pos (by decide))), Nat.shiftRight_eq_div_pow]
    simp
  rw [h1, h3, Int.toNat_natCast]
attribute [go_sem high] shrN
theorem c_godownref03_value {S : TS} {c : BitVec 8} {K : TV → TS → Prop} (hK : K (.lit (.int .i64 (idxS b32 c))) S) : TCall env 56 [.lit (.int .u8 (c.toNat : Int))] S K :=
  (c_godownref03_value_ok S c).mono fun t S' ⟨h1, h2⟩ => by rw [h1, h2]; exact hK
/-- The first q bits of five. -/
def fiveB (v : Nat) : Nat → List Int
  | 0 => []
  | q + 1 => fiveB v q ++ [(((v >>> (4 - q)) % 2 : Nat) : Int)]
def allB (s : Bs) : Nat → List Int
  | 0 => []
  | i + 1 => allB s i ++ fiveB (idxS b32 (s.getD i 0#8)).toNat 5
theorem fiveB_len (v : Nat) : ∀ q, (fiveB v q).length = q
  | 0 => rfl
  | q + 1 => by simp [fiveB, fiveB_len v q]
theorem allB_len (s : Bs) : ∀ i, (allB s i).length = 5 * i
  | 0 => rfl
  | i + 1 => by simp [allB, allB_len s i, fiveB_len]; omega
theorem fiveB_bit (v : Nat) : ∀ q, ∀ x ∈ fiveB v q, 0 ≤ x ∧ x ≤ 1
  | 0, x, h => by cases h
  | q + 1, x, h => by
    simp only [fiveB, List.mem_append, List.mem_singleton] at h
    rcases h with h | h
    · exact fiveB_bit v q x h
    · subst h; omega
theorem allB_bit (s : Bs) : ∀ i, ∀ x ∈ allB s i, 0 ≤ x ∧ x ≤ 1
  | 0, x, h => by cases h
  | i + 1, x, h => by
    simp only [allB, List.mem_append] at h
    rcases h with h | h
    · exact allB_bit s i x h
    · exact fiveB_bit _ _ x h
def accB (bl : List Int) (o : Nat) : Nat → Int
  | 0 => 0
  | k + 1 => 2 * accB bl o k + bl.getD (o + k) 0
def packB (bl : List Int) : Nat → Bs
  | 0 => []
  | j + 1 => packB bl j ++ [BitVec.ofInt 8 (accB bl (8 * j) 8)]
theorem packB_len (bl : List Int) : ∀ j, (packB bl j).length = j
  | 0 => rfl
  | j + 1 => by simp [packB, packB_len bl j]
theorem getD_bit {bl : List Int} (h : ∀ x ∈ bl, 0 ≤ x ∧ x ≤ 1) (i : Nat) : 0 ≤ bl.getD i 0 ∧ bl.getD i 0 ≤ 1 := by
  rw [List.getD_eq_getElem?_getD]
  rcases hi : bl[i]? with _ | x
  · simp
  · exact h x (List.mem_of_getElem? hi)
theorem accB_lt {bl : List Int} (h : ∀ x ∈ bl, 0 ≤ x ∧ x ≤ 1) (o : Nat) : ∀ k, k ≤ 8 → 0 ≤ accB bl o k ∧ accB bl o k < 2 ^ k
  | 0, _ => by simp [accB]
  | k + 1, hk => by
    have h1 := accB_lt h o k (by omega); have h2 := getD_bit h (o + k)
    rw [Int.pow_succ]
    simp only [accB]; omega
def okB (s : Bs) : Bool := s.all fun c => decide (0 ≤ idxS b32 c)
def dec3 (s : Bs) : Option Bs :=
  if okB s = true ∧ ((allB s s.length).drop (8 * (5 * s.length / 8))).all (fun x => decide (x = 0)) = true ∧ 5 * s.length % 8 ≤ 4 then some (packB (allB s s.length) (5 * s.length / 8)) else none
theorem dec3_no2 {s : Bs} (h : ((allB s s.length).drop (8 * (5 * s.length / 8))).all (fun x => decide (x = 0)) = false) : dec3 s = none := by
  unfold dec3
  rw [if_neg]
  rintro ⟨_, h1, _⟩
  rw [h] at h1; cases h1
theorem dec3_no3 {s : Bs} (h : 4 < 5 * s.length % 8) : dec3 s = none := by
  unfold dec3
  rw [if_neg]
  rintro ⟨_, _, h1⟩
  omega
theorem dec3_yes {s : Bs} (h1 : okB s = true) (h2 : ((allB s s.length).drop (8 * (5 * s.length / 8))).all (fun x => decide (x = 0)) = true) (h3 : 5 * s.length % 8 ≤ 4) : dec3 s = some (packB (allB s s.length) (5 * s.length / 8)) := by
  unfold dec3
  rw [if_pos ⟨h1, h2, h3⟩]
theorem dec3_no1 {s : Bs} {i : Nat} (hi : i < s.length) (h : idxS b32 (s.getD i 0#8) < 0) : dec3 s = none := by
  unfold dec3
  rw [if_neg]
  rintro ⟨h1, _⟩
  rw [okB, all_not (d := 0#8) hi (decide_eq_false (by omega))] at h1
  cases h1

set_option maxRecDepth 8000 in
set_option maxHeartbeats 1000000 in
theorem c_godownref03_Bytes_ok (S : TS) (s : Bs) (hs : s.length ≤ 100000) : TCall env 37 [.lit (.string (st s))] S fun r S' => ((dec3 s = none ∧ r = .tup [.sl .full 0 [], .lit (.int .i64 2)]) ∨ ∃ p k, dec3 s = some p ∧ r = .tup [.sl (.own k) 1 (dB p), .lit (.int .i64 0)] ∧ S.n ≤ k ∧ S'.objs k = .lin) ∧ Keep S S' := by
  refine TCall.of 82 [.tmp 2, .tmp 3] Tryd.func37 rfl rfl rfl rfl (by kernel_rfl) rfl ?_
  refine TWp.sr fun K0 hK0 => ?_
  simp -implicitDefEqProofs (disch := omega) only [seval, go_sem]
  repeat (with_reducible refine ⟨by first | omega | exact Keep.push _ _, ?_⟩)
  refine hK0 _ _ ?_; try (clear hK0; clear K0)
  refine TWp.sr fun K1 hK1 => ?_
  simp -implicitDefEqProofs (disch := omega) only [seval, go_sem]
  repeat (with_reducible refine ⟨by first | omega | exact Keep.push _ _, ?_⟩)
  refine hK1 _ _ ?_; try (clear hK1; clear K1)
  refine TWp.seq_k fun K2 hK2 => ?_
  refine TWp.sr fun K3 hK3 => ?_
  simp -implicitDefEqProofs (disch := omega) only [seval, go_sem]
  repeat (with_reducible refine ⟨by first | omega | exact Keep.push _ _, ?_⟩)
  refine hK3 _ _ ?_; try (clear hK3; clear K3)
  refine TWp.block ?_
  refine TWp.asRow 4 1 rfl (.inl rfl) ?_
  refine TWp.loop (fun n T S' => ∃ i k, n + i = s.length ∧ T 0 = .lit (.string (st s)) ∧ T 2 = .sl .full 0 [] ∧ T 4 = .sl (.own k) 1 (dI (allB s i)) ∧ T 5 = .lit (.int .i64 (i : Int)) ∧ (s.take i).all (fun c => decide (0 ≤ idxS b32 c)) = true ∧ S.n ≤ k ∧ S'.objs k = .lin ∧ Keep S S') (s.length) ?_ ?_
  · exact ⟨0, S.n, rfl, rfl, rfl, rfl, rfl, rfl, Nat.le_refl _, push_self _ _, Keep.push _ _⟩
  rintro n T S' ⟨i, k, hi, h0, h2, h4, h5, ha, hk, ho, hS⟩
  obtain ⟨n', hn'⟩ : ∃ n', n' = n := ⟨_, rfl⟩
  rw [← hn'] at hi
  have hal := allB_len s i
  refine TWp.seq_k fun K4 hK4 => ?_
  refine TWp.sr fun K5 hK5 => ?_
  simp -implicitDefEqProofs (disch := omega) only [seval, go_sem, h0, h2, h4, h5, ho, hal]
  repeat (with_reducible refine ⟨by first | omega | exact Keep.push _ _, ?_⟩)
  refine hK5 _ _ ?_; try (clear hK5; clear K5)
  refine TWp.cond_k fun K6 hK6 => ?_
  simp -implicitDefEqProofs (disch := omega) only [seval, go_sem, h0, h2, h4, h5, ho, hal]
  refine hK6 _ (fun hb => ?_) (fun hb => ?_) <;> clear hK6 <;> clear K6
  · try (replace hb := of_decide_eq_true hb)
    refine TWp.skip ?_
    refine hK4 _ _ ?_; try (clear hK4; clear K4)
    refine TWp.seq_k fun K7 hK7 => ?_
    refine TWp.block ?_
    refine TWp.sr fun K8 hK8 => ?_
    simp -implicitDefEqProofs (disch := omega) only [seval, go_sem, h0, h2, h4, h5, ho, hal]
    repeat (with_reducible refine ⟨by first | omega | exact Keep.push _ _, ?_⟩)
    refine c_godownref03_value ?_
    simp -implicitDefEqProofs (disch := omega) only [seval, go_sem, h0, h2, h4, h5, ho, hal]
    repeat (with_reducible refine ⟨by first | omega | exact Keep.push _ _, ?_⟩)
    refine hK8 _ _ ?_; try (clear hK8; clear K8)
    refine TWp.seq_k fun K9 hK9 => ?_
    refine TWp.sr fun K10 hK10 => ?_
    simp -implicitDefEqProofs (disch := omega) only [seval, go_sem, h0, h2, h4, h5, ho, hal]
    repeat (with_reducible refine ⟨by first | omega | exact Keep.push _ _, ?_⟩)
    refine hK10 _ _ ?_; try (clear hK10; clear K10)
    refine TWp.cond_k fun K11 hK11 => ?_
    simp -implicitDefEqProofs (disch := omega) only [seval, go_sem, h0, h2, h4, h5, ho, hal]
    refine hK11 _ (fun hb => ?_) (fun hb => ?_) <;> clear hK11 <;> clear K11
    · try (replace hb := of_decide_eq_true hb)
      refine TWp.sr fun K12 hK12 => ?_
      simp -implicitDefEqProofs (disch := omega) only [seval, go_sem, h0, h2, h4, h5, ho, hal]
      repeat (with_reducible refine ⟨by first | omega | exact Keep.push _ _, ?_⟩)
      refine hK12 _ _ ?_; try (clear hK12; clear K12)
      refine TWp.ret ⟨.inr rfl, [_, _], ⟨rfl, rfl, trivial⟩, ?_⟩
      exact ⟨.inl ⟨dec3_no1 (i := i) (by omega) (by omega), rfl⟩, hS⟩
    · try (replace hb := of_decide_eq_false hb)
      refine TWp.skip ?_
      refine hK9 _ _ ?_; try (clear hK9; clear K9)
      refine TWp.sr fun K13 hK13 => ?_
      simp -implicitDefEqProofs (disch := omega) only [seval, go_sem, h0, h2, h4, h5, ho, hal]
      repeat (with_reducible refine ⟨by first | omega | exact Keep.push _ _, ?_⟩)
      refine hK13 _ _ ?_; try (clear hK13; clear K13)
      refine TWp.block ?_
      obtain ⟨v, hv⟩ : ∃ v : Nat, v = (idxS b32 (s.getD i 0#8)).toNat := ⟨_, rfl⟩
      refine TWp.loop (fun n T S' => ∃ q k, n + q = 5 ∧ T 0 = .lit (.string (st s)) ∧ T 2 = .sl .full 0 [] ∧ T 4 = .sl (.own k) 1 (dI (allB s i ++ fiveB v q)) ∧ T 5 = .lit (.int .i64 (i : Int)) ∧ T 6 = .lit (.int .i64 (v : Int)) ∧ T 7 = .lit (.int .i64 (4 - (q : Int))) ∧ S.n ≤ k ∧ S'.objs k = .lin ∧ Keep S S') (5) ?_ ?_
      · exact ⟨0, k, rfl, h0, h2, by rw [fiveB, List.append_nil]; exact h4, h5, by show TV.lit _ = _; rw [hv, Int.toNat_of_nonneg (by omega)], rfl, hk, ho, hS⟩
      rintro n T S' ⟨q, k, hq, h0, h2, h4, h5, h6, h7, hk, ho, hS⟩
      have hfl := fiveB_len v q
      have hal2 : (allB s i ++ fiveB v q).length = 5 * i + q := by rw [List.length_append, hal, hfl]
      refine TWp.seq_k fun K14 hK14 => ?_
      refine TWp.sr fun K15 hK15 => ?_
      simp -implicitDefEqProofs (disch := omega) only [seval, go_sem, h0, h2, h4, h5, h6, h7, ho, hal2]
      repeat (with_reducible refine ⟨by first | omega | exact Keep.push _ _, ?_⟩)
      refine hK15 _ _ ?_; try (clear hK15; clear K15)
      refine TWp.cond_k fun K16 hK16 => ?_
      simp -implicitDefEqProofs (disch := omega) only [seval, go_sem, h0, h2, h4, h5, h6, h7, ho, hal2]
      refine hK16 _ (fun hb => ?_) (fun hb => ?_) <;> clear hK16 <;> clear K16
      · try (replace hb := of_decide_eq_true hb)
        refine TWp.skip ?_
        refine hK14 _ _ ?_; try (clear hK14; clear K14)
        refine TWp.seq_k fun K17 hK17 => ?_
        refine TWp.block ?_
        refine TWp.rk fun K18 hK18 => ?_
        simp -implicitDefEqProofs (disch := omega) only [seval, go_sem, h0, h2, h4, h5, h6, h7, ho, hal2]
        repeat (with_reducible refine ⟨by first | omega | exact Keep.push _ _, ?_⟩)
        refine hK18 _ _ ?_; try (clear hK18; clear K18)
        refine hK17 _ _ ?_; try (clear hK17; clear K17)
        refine TWp.rk fun K19 hK19 => ?_
        simp -implicitDefEqProofs (disch := omega) only [seval, go_sem, h0, h2, h4, h5, h6, h7, ho, hal2]
        repeat (with_reducible refine ⟨by first | omega | exact Keep.push _ _, ?_⟩)
        refine hK19 _ _ ?_; try (clear hK19; clear K19)
        exact ⟨n - 1, by omega, q + 1, S'.n, by omega, h0, h2, by show TV.sl _ _ _ = _; rw [fiveB, ← List.append_assoc, dI_app (allB s i ++ fiveB v q)]; rfl, h5, h6, by show TV.lit _ = _; congr 2; omega, hS.1, push_self (S'.set k .gone) _, (hS.set hk _).push' _⟩
      · try (replace hb := of_decide_eq_false hb)
        refine TWp.exit ?_
        refine hK7 _ _ ?_; try (clear hK7; clear K7)
        refine TWp.rk fun K20 hK20 => ?_
        simp -implicitDefEqProofs (disch := omega) only [seval, go_sem, h0, h2, h4, h5, h6, h7, ho, hal2]
        repeat (with_reducible refine ⟨by first | omega | exact Keep.push _ _, ?_⟩)
        refine hK20 _ _ ?_; try (clear hK20; clear K20)
        have h5' : q = 5 := by omega
        subst h5'
        exact ⟨n' - 1, by omega, i + 1, k, by omega, h0, h2, by rw [allB, ← hv]; exact h4, rfl, take_all (d := 0#8) ha (by omega) (decide_eq_true (by omega)), hk, ho, hS⟩
  · try (replace hb := of_decide_eq_false hb)
    refine TWp.exit ?_
    refine hK2 _ _ ?_; try (clear hK2; clear K2)
    refine TWp.sr fun K21 hK21 => ?_
    simp -implicitDefEqProofs (disch := omega) only [seval, go_sem, h0, h2, h4, h5, ho, hal]
    repeat (with_reducible refine ⟨by first | omega | exact Keep.push _ _, ?_⟩)
    refine hK21 _ _ ?_; try (clear hK21; clear K21)
    refine TWp.seq_k fun K22 hK22 => ?_
    refine TWp.sr fun K23 hK23 => ?_
    simp -implicitDefEqProofs (disch := omega) only [seval, go_sem, h0, h2, h4, h5, ho, hal]
    repeat (with_reducible refine ⟨by first | omega | exact Keep.push _ _, ?_⟩)
    refine hK23 _ _ ?_; try (clear hK23; clear K23)
    refine TWp.block ?_
    refine TWp.asRow 8 1 rfl (.inl rfl) ?_
    have hie : i = s.length := by omega
    subst hie
    obtain ⟨bl, hbe⟩ : ∃ bl, bl = allB s s.length := ⟨_, rfl⟩
    have hbl : bl.length = 5 * s.length := by rw [hbe, allB_len]
    have hbit : ∀ x ∈ bl, 0 ≤ x ∧ x ≤ 1 := by rw [hbe]; exact allB_bit s _
    refine TWp.loop (fun n T S' => ∃ j k k2, n + 8 * j = 5 * s.length ∧ T 2 = .sl .full 0 [] ∧ T 4 = .sl (.own k2) 1 (dI bl) ∧ T 8 = .sl (.own k) 1 (dB (packB bl j)) ∧ T 9 = .lit (.int .i64 ((8 * j : Nat) : Int)) ∧ S.n ≤ k ∧ S'.objs k = .lin ∧ Keep S S') (5 * s.length) ?_ ?_
    · exact ⟨0, S'.n, k, rfl, h2, by rw [hbe]; exact h4, rfl, rfl, hS.1, push_self _ _, hS.push' _⟩
    rintro n T S' ⟨j, k, k2, hj, h2, h4, h8, h9, hk, ho, hS⟩
    have hpl := packB_len bl j
    obtain ⟨S1, hS1⟩ : ∃ S1, S1 = S' := ⟨_, rfl⟩
    refine TWp.seq_k fun K24 hK24 => ?_
    refine TWp.sr fun K25 hK25 => ?_
    simp -implicitDefEqProofs (disch := omega) only [seval, go_sem, h2, h4, h8, h9, ho, hpl, hbl]
    repeat (with_reducible refine ⟨by first | omega | exact Keep.push _ _, ?_⟩)
    refine hK25 _ _ ?_; try (clear hK25; clear K25)
    refine TWp.cond_k fun K26 hK26 => ?_
    simp -implicitDefEqProofs (disch := omega) only [seval, go_sem, h2, h4, h8, h9, ho, hpl, hbl]
    refine hK26 _ (fun hb => ?_) (fun hb => ?_) <;> clear hK26 <;> clear K26
    · try (replace hb := of_decide_eq_true hb)
      refine TWp.skip ?_
      refine hK24 _ _ ?_; try (clear hK24; clear K24)
      refine TWp.seq_k fun K27 hK27 => ?_
      refine TWp.block ?_
      refine TWp.sr fun K28 hK28 => ?_
      simp -implicitDefEqProofs (disch := omega) only [seval, go_sem, h2, h4, h8, h9, ho, hpl, hbl]
      repeat (with_reducible refine ⟨by first | omega | exact Keep.push _ _, ?_⟩)
      refine hK28 _ _ ?_; try (clear hK28; clear K28)
      refine TWp.seq_k fun K29 hK29 => ?_
      refine TWp.sr fun K30 hK30 => ?_
      simp -implicitDefEqProofs (disch := omega) only [seval, go_sem, h2, h4, h8, h9, ho, hpl, hbl]
      repeat (with_reducible refine ⟨by first | omega | exact Keep.push _ _, ?_⟩)
      refine hK30 _ _ ?_; try (clear hK30; clear K30)
      refine TWp.block ?_
      refine TWp.loop (fun n T S' => ∃ q, n + q = 8 ∧ T 2 = .sl .full 0 [] ∧ T 4 = .sl (.own k2) 1 (dI bl) ∧ T 8 = .sl (.own k) 1 (dB (packB bl j)) ∧ T 9 = .lit (.int .i64 ((8 * j : Nat) : Int)) ∧ T 10 = .lit (.int .i64 (accB bl (8 * j) q)) ∧ T 11 = .lit (.int .i64 (q : Int)) ∧ S' = S1) (8) ?_ ?_
      · exact ⟨0, rfl, h2, h4, h8, h9, rfl, rfl, hS1.symm⟩
      rintro n T S' ⟨q, hq, h2, h4, h8, h9, h10, h11, hS2⟩
      have hac := accB_lt hbit (8 * j) q (by omega)
      have hac2 : (2 : Int) ^ q ≤ 256 := by have := Nat.pow_le_pow_right (n := 2) (by omega) (show q ≤ 8 by omega); exact_mod_cast this
      have hgb := getD_bit hbit (8 * j + q)
      rw [hS1] at hS2
      rw [← hS2] at ho hS
      refine TWp.seq_k fun K31 hK31 => ?_
      refine TWp.sr fun K32 hK32 => ?_
      simp -implicitDefEqProofs (disch := omega) only [seval, go_sem, h2, h4, h8, h9, h10, h11, ho, hpl, hbl]
      repeat (with_reducible refine ⟨by first | omega | exact Keep.push _ _, ?_⟩)
      refine hK32 _ _ ?_; try (clear hK32; clear K32)
      refine TWp.cond_k fun K33 hK33 => ?_
      simp -implicitDefEqProofs (disch := omega) only [seval, go_sem, h2, h4, h8, h9, h10, h11, ho, hpl, hbl]
      refine hK33 _ (fun hb => ?_) (fun hb => ?_) <;> clear hK33 <;> clear K33
      · try (replace hb := of_decide_eq_true hb)
        refine TWp.skip ?_
        refine hK31 _ _ ?_; try (clear hK31; clear K31)
        refine TWp.seq_k fun K34 hK34 => ?_
        refine TWp.block ?_
        refine TWp.rk fun K35 hK35 => ?_
        simp -implicitDefEqProofs (disch := omega) only [seval, go_sem, h2, h4, h8, h9, h10, h11, ho, hpl, hbl]
        repeat (with_reducible refine ⟨by first | omega | exact Keep.push _ _, ?_⟩)
        refine hK35 _ _ ?_; try (clear hK35; clear K35)
        refine hK34 _ _ ?_; try (clear hK34; clear K34)
        refine TWp.rk fun K36 hK36 => ?_
        simp -implicitDefEqProofs (disch := omega) only [seval, go_sem, h2, h4, h8, h9, h10, h11, ho, hpl, hbl]
        repeat (with_reducible refine ⟨by first | omega | exact Keep.push _ _, ?_⟩)
        refine hK36 _ _ ?_; try (clear hK36; clear K36)
        exact ⟨n - 1, by omega, q + 1, by omega, h2, h4, h8, h9, rfl, rfl, hS2.trans hS1.symm⟩
      · try (replace hb := of_decide_eq_false hb)
        refine TWp.exit ?_
        refine hK29 _ _ ?_; try (clear hK29; clear K29)
        refine TWp.rk fun K37 hK37 => ?_
        simp -implicitDefEqProofs (disch := omega) only [seval, go_sem, h2, h4, h8, h9, h10, h11, ho, hpl, hbl]
        repeat (with_reducible refine ⟨by first | omega | exact Keep.push _ _, ?_⟩)
        refine hK37 _ _ ?_; try (clear hK37; clear K37)
        refine hK27 _ _ ?_; try (clear hK27; clear K27)
        refine TWp.rk fun K38 hK38 => ?_
        simp -implicitDefEqProofs (disch := omega) only [seval, go_sem, h2, h4, h8, h9, h10, h11, ho, hpl, hbl]
        repeat (with_reducible refine ⟨by first | omega | exact Keep.push _ _, ?_⟩)
        refine hK38 _ _ ?_; try (clear hK38; clear K38)
        have h5' : q = 8 := by omega
        subst h5'
        exact ⟨5 * s.length - 8 * (j + 1), by omega, j + 1, S'.n, k2, by omega, h2, h4, by show TV.sl _ _ _ = _; rw [packB, dB_app]; rfl, by show TV.lit _ = _; rw [Nat.mul_succ], hS.1, push_self (S'.set k .gone) _, (hS.set hk _).push' _⟩
    · try (replace hb := of_decide_eq_false hb)
      refine TWp.exit ?_
      refine hK22 _ _ ?_; try (clear hK22; clear K22)
      refine TWp.sr fun K39 hK39 => ?_
      simp -implicitDefEqProofs (disch := omega) only [seval, go_sem, h2, h4, h8, h9, ho, hpl, hbl]
      repeat (with_reducible refine ⟨by first | omega | exact Keep.push _ _, ?_⟩)
      refine hK39 _ _ ?_; try (clear hK39; clear K39)
      refine TWp.seq_k fun K40 hK40 => ?_
      refine TWp.sr fun K41 hK41 => ?_
      simp -implicitDefEqProofs (disch := omega) only [seval, go_sem, h2, h4, h8, h9, ho, hpl, hbl]
      repeat (with_reducible refine ⟨by first | omega | exact Keep.push _ _, ?_⟩)
      refine hK41 _ _ ?_; try (clear hK41; clear K41)
      refine TWp.block ?_
      obtain ⟨rest, hre⟩ : ∃ rest, rest = bl.drop (j * 8) := ⟨_, rfl⟩
      have hjm : j = 5 * s.length / 8 := by omega
      have hre2 : rest = (allB s s.length).drop (8 * (5 * s.length / 8)) := by rw [hre, hbe, ← hjm, Nat.mul_comm]
      have hok : okB s = true := by have := ha; rwa [List.take_length] at this
      have hrl : rest.length = 5 * s.length - 8 * (5 * s.length / 8) := by rw [hre, List.length_drop, hbl]; omega
      obtain ⟨p, hp⟩ : ∃ p, p = packB bl j := ⟨_, rfl⟩
      refine TWp.loop (fun n T S' => ∃ i : Nat, n + i = 5 * s.length - 8 * (5 * s.length / 8) ∧ T 2 = .sl .full 0 [] ∧ T 12 = .sl (.own k2) 1 (dI rest) ∧ T 8 = .sl (.own k) 1 (dB p) ∧ T 13 = .lit (.int .i64 (i : Int)) ∧ (rest.take i).all (fun x => decide (x = 0)) = true ∧ S.n ≤ k ∧ S'.objs k = .lin ∧ Keep S S') (5 * s.length - 8 * (5 * s.length / 8)) ?_ ?_
      · exact ⟨0, by omega, h2, by show TV.sl _ _ _ = _; rw [hre], by rw [hp]; exact h8, rfl, rfl, hk, ho, hS⟩
      rintro n T S' ⟨i, hi, h2, h12, h8, h13, ha2, hk, ho, hS⟩
      refine TWp.seq_k fun K42 hK42 => ?_
      refine TWp.sr fun K43 hK43 => ?_
      simp -implicitDefEqProofs (disch := omega) only [seval, go_sem, h2, h12, h8, h13, ho, hrl]
      repeat (with_reducible refine ⟨by first | omega | exact Keep.push _ _, ?_⟩)
      refine hK43 _ _ ?_; try (clear hK43; clear K43)
      refine TWp.cond_k fun K44 hK44 => ?_
      simp -implicitDefEqProofs (disch := omega) only [seval, go_sem, h2, h12, h8, h13, ho, hrl]
      refine hK44 _ (fun hb => ?_) (fun hb => ?_) <;> clear hK44 <;> clear K44
      · try (replace hb := of_decide_eq_true hb)
        refine TWp.skip ?_
        refine hK42 _ _ ?_; try (clear hK42; clear K42)
        refine TWp.seq_k fun K45 hK45 => ?_
        refine TWp.block ?_
        refine TWp.sr fun K46 hK46 => ?_
        simp -implicitDefEqProofs (disch := omega) only [seval, go_sem, h2, h12, h8, h13, ho, hrl]
        repeat (with_reducible refine ⟨by first | omega | exact Keep.push _ _, ?_⟩)
        refine hK46 _ _ ?_; try (clear hK46; clear K46)
        refine TWp.cond_k fun K47 hK47 => ?_
        simp -implicitDefEqProofs (disch := omega) only [seval, go_sem, h2, h12, h8, h13, ho, hrl]
        refine hK47 _ (fun hb => ?_) (fun hb => ?_) <;> clear hK47 <;> clear K47
        · try (replace hb := of_decide_eq_true hb)
          refine TWp.sr fun K48 hK48 => ?_
          simp -implicitDefEqProofs (disch := omega) only [seval, go_sem, h2, h12, h8, h13, ho, hrl]
          repeat (with_reducible refine ⟨by first | omega | exact Keep.push _ _, ?_⟩)
          refine hK48 _ _ ?_; try (clear hK48; clear K48)
          refine TWp.ret ⟨.inr rfl, [_, _], ⟨rfl, rfl, trivial⟩, ?_⟩
          exact ⟨.inl ⟨dec3_no2 (by rw [← hre2]; exact all_not (i := i) (d := 0) (by omega) (decide_eq_false (by omega))), rfl⟩, hS⟩
        · try (replace hb := of_decide_eq_false hb)
          refine TWp.skip ?_
          refine hK45 _ _ ?_; try (clear hK45; clear K45)
          refine TWp.rk fun K49 hK49 => ?_
          simp -implicitDefEqProofs (disch := omega) only [seval, go_sem, h2, h12, h8, h13, ho, hrl]
          repeat (with_reducible refine ⟨by first | omega | exact Keep.push _ _, ?_⟩)
          refine hK49 _ _ ?_; try (clear hK49; clear K49)
          exact ⟨n - 1, by omega, i + 1, by omega, h2, h12, h8, rfl, take_all (d := 0) ha2 (by omega) (decide_eq_true (by omega)), hk, ho, hS⟩
      · try (replace hb := of_decide_eq_false hb)
        refine TWp.exit ?_
        refine hK40 _ _ ?_; try (clear hK40; clear K40)
        refine TWp.seq_k fun K50 hK50 => ?_
        refine TWp.sr fun K51 hK51 => ?_
        simp -implicitDefEqProofs (disch := omega) only [seval, go_sem, h2, h12, h8, h13, ho, hrl]
        repeat (with_reducible refine ⟨by first | omega | exact Keep.push _ _, ?_⟩)
        refine hK51 _ _ ?_; try (clear hK51; clear K51)
        refine TWp.cond_k fun K52 hK52 => ?_
        simp -implicitDefEqProofs (disch := omega) only [seval, go_sem, h2, h12, h8, h13, ho, hrl]
        refine hK52 _ (fun hb => ?_) (fun hb => ?_) <;> clear hK52 <;> clear K52
        · try (replace hb := of_decide_eq_true hb)
          refine TWp.sr fun K53 hK53 => ?_
          simp -implicitDefEqProofs (disch := omega) only [seval, go_sem, h2, h12, h8, h13, ho, hrl]
          repeat (with_reducible refine ⟨by first | omega | exact Keep.push _ _, ?_⟩)
          refine hK53 _ _ ?_; try (clear hK53; clear K53)
          refine TWp.ret ⟨.inr rfl, [_, _], ⟨rfl, rfl, trivial⟩, ?_⟩
          exact ⟨.inl ⟨dec3_no3 (by omega), rfl⟩, hS⟩
        · try (replace hb := of_decide_eq_false hb)
          refine TWp.skip ?_
          refine hK50 _ _ ?_; try (clear hK50; clear K50)
          refine TWp.sr fun K54 hK54 => ?_
          simp -implicitDefEqProofs (disch := omega) only [seval, go_sem, h2, h12, h8, h13, ho, hrl]
          repeat (with_reducible refine ⟨by first | omega | exact Keep.push _ _, ?_⟩)
          refine hK54 _ _ ?_; try (clear hK54; clear K54)
          refine TWp.ret ⟨.inr rfl, [_, _], ⟨rfl, rfl, trivial⟩, ?_⟩
          have ha3 : rest.all (fun x => decide (x = 0)) = true := by rw [← ha2, List.take_of_length_le (by omega)]
          exact ⟨.inr ⟨p, k, by rw [hp, hbe, hjm]; exact dec3_yes hok (by rw [← hre2]; exact ha3) (by omega), rfl, hk, ho⟩, hS⟩

theorem c_godownref03_Bytes_no {S : TS} {s : Bs} {K : TV → TS → Prop} (hK : K (.tup [.sl .full 0 [], .lit (.int .i64 2)]) S) (hd : dec3 s = none) (hs : s.length ≤ 100000 := by omega) : TCall env 37 [.lit (.string (st s))] S K := by
  refine (TCall.pure (r := .tup [.sl .full 0 [], .lit (.int .i64 2)]) ((c_godownref03_Bytes_ok S s hs).mono ?_) (.tupF (.cons (.sl0 _ _ _ (.inr (.inl rfl))) (.cons (.lit _) .nil)))).mono fun t S' ⟨h1, h2⟩ => by rw [h1, h2]; exact hK
  rintro t S' ⟨⟨_, h2⟩ | ⟨p, k, h1, _⟩, h3⟩
  · exact ⟨h2, h3⟩
  · rw [hd] at h1; cases h1
theorem c_godownref03_Bytes {S : TS} {s p : Bs} {K : TV → TS → Prop} (hK : K (.tup [.sl (.own S.n) 1 (dB p), .lit (.int .i64 0)]) (S.push .lin)) (hd : dec3 s = some p) (hs : s.length ≤ 100000 := by omega) : TCall env 37 [.lit (.string (st s))] S K := by
  refine (c_godownref03_Bytes_ok S s hs).forget fun t S1 hw h => ?_
  rcases h with ⟨⟨h1, _⟩ | ⟨q, k, h1, h2, h3, h4⟩, h5⟩
  · rw [hd] at h1; cases h1
  · rw [hd] at h1; injection h1 with h1; subst h1
    exact ⟨[k], _, _, .row hw h5 h3 h4, by rw [h2]; exact .tupF (.cons (.sl 0 k 1 _ rfl) (.cons (.lit _) .nil)), hK⟩

end Go.Proofs.YtiijiejncefpmaaDoor
namespace Go.Proofs.YtiijiejncefpmaaDoor
open Go.RowKit TL

theorem packB_get {bl : List Int} : ∀ {j i : Nat}, i < j → (packB bl j).getD i 0#8 = BitVec.ofInt 8 (accB bl (8 * i) 8)
  | 0, i, h => absurd h (by omega)
  | j + 1, i, h => by
    simp only [packB]
    rw [List.getD_eq_getElem?_getD, List.getElem?_append]
    split
    · rename_i h2
      rw [packB_len] at h2
      rw [← List.getD_eq_getElem?_getD, packB_get h2]
    · rename_i h2
      rw [packB_len] at h2 ⊢
      have : i = j := by omega
      subst this
      simp
theorem acc_bit {bl : List Int} (h : ∀ x ∈ bl, 0 ≤ x ∧ x ≤ 1) (o k : Nat) (hk : k < 8) : (((BitVec.ofInt 8 (accB bl o 8)) >>> (7 - k)).toNat % 2 : Nat) = (bl.getD (o + k) 0).toNat := by
  have b0 := getD_bit h (o + 0); have b1 := getD_bit h (o + 1); have b2 := getD_bit h (o + 2); have b3 := getD_bit h (o + 3)
  have b4 := getD_bit h (o + 4); have b5 := getD_bit h (o + 5); have b6 := getD_bit h (o + 6); have b7 := getD_bit h (o + 7)
  rw [BitVec.toNat_ushiftRight, BitVec.toNat_ofInt, Nat.shiftRight_eq_div_pow]
  simp only [accB]
  have hc : k = 0 ∨ k = 1 ∨ k = 2 ∨ k = 3 ∨ k = 4 ∨ k = 5 ∨ k = 6 ∨ k = 7 := by omega
  generalize hx0 : bl.getD (o + 0) 0 = x0 at *
  generalize hx1 : bl.getD (o + 1) 0 = x1 at *
  generalize hx2 : bl.getD (o + 2) 0 = x2 at *
  generalize hx3 : bl.getD (o + 3) 0 = x3 at *
  generalize hx4 : bl.getD (o + 4) 0 = x4 at *
  generalize hx5 : bl.getD (o + 5) 0 = x5 at *
  generalize hx6 : bl.getD (o + 6) 0 = x6 at *
  generalize hx7 : bl.getD (o + 7) 0 = x7 at *
  rcases hc with rfl | rfl | rfl | rfl | rfl | rfl | rfl | rfl
  · rw [hx0]; simp only [Nat.reduceSub, Nat.reducePow]; omega
  · rw [hx1]; simp only [Nat.reduceSub, Nat.reducePow]; omega
  · rw [hx2]; simp only [Nat.reduceSub, Nat.reducePow]; omega
  · rw [hx3]; simp only [Nat.reduceSub, Nat.reducePow]; omega
  · rw [hx4]; simp only [Nat.reduceSub, Nat.reducePow]; omega
  · rw [hx5]; simp only [Nat.reduceSub, Nat.reducePow]; omega
  · rw [hx6]; simp only [Nat.reduceSub, Nat.reducePow]; omega
  · rw [hx7]; simp only [Nat.reduceSub, Nat.reducePow]; omega
theorem bitN_pack {bl : List Int} (h : ∀ x ∈ bl, 0 ≤ x ∧ x ≤ 1) {j i : Nat} (hi : i < 8 * j) : bitN (packB bl j) i = (bl.getD i 0).toNat := by
  have h1 : i / 8 < j := by omega
  rw [bitN, if_pos (by rw [packB_len]; exact h1), packB_get h1, acc_bit h _ _ (Nat.mod_lt _ (by decide)), show 8 * (i / 8) + i % 8 = i by omega]
theorem bitsN_pack {bl : List Int} (h : ∀ x ∈ bl, 0 ≤ x ∧ x ≤ 1) {j o : Nat} : ∀ k, o + k ≤ 8 * j → (bitsN (packB bl j) o k : Int) = accB bl o k
  | 0, _ => rfl
  | k + 1, hk => by
    have h1 := bitsN_pack (o := o) (j := j) h k (by omega)
    have h2 := getD_bit h (o + k)
    simp only [bitsN, accB]
    rw [bitN_pack h (by omega)]
    omega
theorem allB_get (s : Bs) : ∀ {n i k : Nat}, i < n → k < 5 → (allB s n).getD (5 * i + k) 0 = (fiveB (idxS b32 (s.getD i 0#8)).toNat 5).getD k 0
  | 0, i, k, h, _ => absurd h (by omega)
  | n + 1, i, k, h, hk => by
    simp only [allB]
    rw [List.getD_eq_getElem?_getD, List.getElem?_append]
    split
    · rename_i h2
      rw [allB_len] at h2
      rw [← List.getD_eq_getElem?_getD, allB_get s (n := n) (by omega) hk]
    · rename_i h2
      rw [allB_len] at h2 ⊢
      have : i = n := by omega
      subst this
      rw [← List.getD_eq_getElem?_getD, show 5 * i + k - 5 * i = k by omega]
theorem five_all (v : Nat) (h : v < 32) : 2 * (2 * (2 * (2 * (2 * 0 + (fiveB v 5).getD 0 0) + (fiveB v 5).getD 1 0) + (fiveB v 5).getD 2 0) + (fiveB v 5).getD 3 0) + (fiveB v 5).getD 4 0 = (v : Int) := by
  simp only [fiveB, List.nil_append, List.cons_append, List.getD_cons_zero, List.getD_cons_succ, Nat.shiftRight_eq_div_pow]
  omega
theorem acc_all {s : Bs} {n i : Nat} (hi : i < n) (h0 : idxS b32 (s.getD i 0#8) < 32) : accB (allB s n) (5 * i) 5 = ((idxS b32 (s.getD i 0#8)).toNat : Int) := by
  simp only [accB]
  rw [allB_get s hi (by omega), allB_get s hi (by omega), allB_get s hi (by omega), allB_get s hi (by omega), allB_get s hi (by omega)]
  exact five_all _ (by omega)
theorem idx_spec (c : BitVec 8) : idxS b32 c < 32 ∧ (0 ≤ idxS b32 c → b32.getD (idxS b32 c).toNat 0#8 = c) := by
  unfold idxS
  split
  · rename_i i h
    have h1 := List.mem_range.1 (List.mem_of_find?_eq_some h)
    have h2 := List.find?_some h
    rw [b32_len] at h1
    refine ⟨by omega, fun _ => ?_⟩
    rw [Int.toNat_natCast]
    simpa using h2
  · exact ⟨by decide, fun h => absurd h (by decide)⟩
theorem txtN_pack {s : Bs} (hok : okB s = true) {j : Nat} : ∀ n, n ≤ s.length → 5 * n ≤ 8 * j → txtN (packB (allB s s.length) j) n = s.take n
  | 0, _, _ => by simp [txtN]
  | n + 1, h1, h2 => by
    have hn : n < s.length := by omega
    have ih := txtN_pack hok (j := j) n (by omega) (by omega)
    have hi := idx_spec (s.getD n 0#8)
    have hp : 0 ≤ idxS b32 (s.getD n 0#8) := by
      have := (List.all_eq_true.1 hok) _ (mem_getD hn)
      simpa using this
    have e : bitsN (packB (allB s s.length) j) (5 * n) 5 = (idxS b32 (s.getD n 0#8)).toNat := by
      have := bitsN_pack (allB_bit s s.length) (j := j) (o := 5 * n) 5 (by omega)
      rw [acc_all hn hi.1] at this
      omega
    simp only [txtN]
    rw [ih, e, hi.2 hp, List.take_add_one, List.getElem?_eq_getElem hn, List.getD_eq_getElem?_getD, List.getElem?_eq_getElem hn]
    rfl
/-- Letters whose bits are whole bytes: as bytes and back. -/
theorem txt_pack {s : Bs} (hok : okB s = true) (h : 5 * s.length % 8 = 0) : txtS (packB (allB s s.length) (5 * s.length / 8)) = s := by
  rw [txtS, packB_len, show (8 * (5 * s.length / 8) + 4) / 5 = s.length by omega, txtN_pack hok _ (Nat.le_refl _) (by omega), List.take_length]
theorem dec3_whole {s : Bs} (h : 5 * s.length % 8 = 0) : dec3 s = if okB s = true then some (packB (allB s s.length) (5 * s.length / 8)) else none := by
  unfold dec3
  by_cases hok : okB s = true
  · rw [if_pos hok, if_pos]
    refine ⟨hok, ?_, by omega⟩
    rw [List.drop_of_length_le (by rw [allB_len]; omega)]
    rfl
  · rw [if_neg hok, if_neg fun h => hok h.1]
/-- What a path is: its letters, its name. -/
def splitS (s : Bs) : Option (Bs × Bs) :=
  if 34 ≤ s.length ∧ (s.getD 32 0#8).toNat = 45 ∧ rightS (s.drop 33) = true ∧ okB (s.take 32) = true then some (s.take 32, s.drop 33) else none
def splitV (s : Bs) : TV := match splitS s with
  | some (a, b) => .tup [.lit (.string (st a)), .lit (.string (st b)), .lit (.bool true)]
  | none => .tup [.lit (.string (st [])), .lit (.string (st [])), .lit (.bool false)]
theorem split_no {s : Bs} (h : s.length < 34 ∨ (s.getD 32 0#8).toNat ≠ 45 ∨ rightS (s.drop 33) = false ∨ okB (s.take 32) = false) : splitV s = .tup [.lit (.string (st [])), .lit (.string (st [])), .lit (.bool false)] := by
  have : splitS s = none := by
    unfold splitS
    rw [if_neg]
    rintro ⟨h1, h2, h3, h4⟩
    rcases h with h | h | h | h
    · omega
    · exact h h2
    · rw [h] at h3; cases h3
    · rw [h] at h4; cases h4
  rw [splitV, this]
theorem split_yes {s : Bs} (h1 : 34 ≤ s.length) (h2 : (s.getD 32 0#8).toNat = 45) (h3 : rightS (s.drop 33) = true) (h4 : okB (s.take 32) = true) : splitV s = .tup [.lit (.string (st (s.take 32))), .lit (.string (st (s.drop 33))), .lit (.bool true)] := by
  have : splitS s = some (s.take 32, s.drop 33) := by
    unfold splitS
    rw [if_pos ⟨h1, h2, h3, h4⟩]
  rw [splitV, this]
end Go.Proofs.YtiijiejncefpmaaDoor
namespace Go.Proofs.YtiijiejncefpmaaDoor
open Go.RowKit TL

theorem followsN : env.P.follows .mixedOrders = true := by kernel_rfl
set_option maxRecDepth 8000 in
set_option maxHeartbeats 1000000 in
theorem c_godownref07_Split_true (S : TS) (s : Bs) (hs : s.length ≤ 100000) (hok : okB (s.take 32) = true) : TCall env 13 [.lit (.string (st s))] S fun r S' => r = splitV s ∧ Keep S S' := by
  refine TCall.of 33 [.tmp 2, .tmp 3, .tmp 4] Tryd.func13 rfl rfl rfl rfl (by kernel_rfl) rfl ?_
  refine TWp.sr fun K0 hK0 => ?_
  simp -implicitDefEqProofs (disch := omega) only [seval, go_sem]
  repeat (with_reducible refine ⟨by first | omega | exact Keep.push _ _, ?_⟩)
  refine hK0 _ _ ?_; try (clear hK0; clear K0)
  refine TWp.seq_k fun K1 hK1 => ?_
  refine TWp.sr fun K2 hK2 => ?_
  simp -implicitDefEqProofs (disch := omega) only [seval, go_sem]
  repeat' (first | with_reducible refine ⟨by first | omega | exact Keep.push _ _, ?_⟩ | (refine brT_split (fun hb => ?_) (fun hb => ?_) <;> (have hb' := hb; try simp only [decide_eq_true_eq, decide_eq_false_iff_not] at hb') <;> simp -implicitDefEqProofs (disch := omega) only [seval, go_sem, hb]))
  all_goals try (refine c_godownref07_Right ?_; simp -implicitDefEqProofs (disch := omega) only [seval, go_sem])
  all_goals repeat' (first | with_reducible refine ⟨by first | omega | exact Keep.push _ _, ?_⟩ | (refine brT_split (fun hb => ?_) (fun hb => ?_) <;> (have hb' := hb; try simp only [decide_eq_true_eq, decide_eq_false_iff_not] at hb') <;> simp -implicitDefEqProofs (disch := omega) only [seval, go_sem, hb]))
  all_goals
    refine hK2 _ _ ?_; try (clear hK2; clear K2)
    refine TWp.cond_k fun K3 hK3 => ?_
    simp -implicitDefEqProofs (disch := omega) only [seval, go_sem]
    refine hK3 _ (fun hb => ?_) (fun hb => ?_) <;> clear hK3 <;> clear K3
    · try (replace hb := of_decide_eq_true hb)
      try (exact absurd hb (by decide))
      all_goals
        refine TWp.sr fun K4 hK4 => ?_
        simp -implicitDefEqProofs (disch := omega) only [seval, go_sem]
        repeat (with_reducible refine ⟨by first | omega | exact Keep.push _ _, ?_⟩)
        refine hK4 _ _ ?_; try (clear hK4; clear K4)
        refine TWp.ret ⟨.inr rfl, [_, _, _], ⟨rfl, rfl, rfl, trivial⟩, ?_⟩
        exact ⟨(split_no (by first | exact .inl (by omega) | exact .inr (.inl (by omega)) | exact .inr (.inr (.inl (by simpa using hb))))).symm, Keep.refl _⟩
    · try (replace hb := of_decide_eq_false hb)
      try (exact absurd hb (by decide))
      all_goals
        refine TWp.skip ?_
        refine hK1 _ _ ?_; try (clear hK1; clear K1)
        refine TWp.sr fun K5 hK5 => ?_
        simp -implicitDefEqProofs (disch := omega) only [seval, go_sem]
        repeat (with_reducible refine ⟨by first | omega | exact Keep.push _ _, ?_⟩)
        refine c_godownref03_Bytes ?_ ((dec3_whole (by rw [List.length_take]; omega)).trans (if_pos hok)) (by rw [List.length_take]; omega)
        simp -implicitDefEqProofs (disch := omega) only [seval, go_sem]
        repeat (with_reducible refine ⟨by first | omega | exact Keep.push _ _, ?_⟩)
        refine hK5 _ _ ?_; try (clear hK5; clear K5)
        refine TWp.seq_k fun K6 hK6 => ?_
        refine TWp.sr fun K7 hK7 => ?_
        simp -implicitDefEqProofs (disch := omega) only [seval, go_sem]
        repeat (with_reducible refine ⟨by first | omega | exact Keep.push _ _, ?_⟩)
        refine hK7 _ _ ?_; try (clear hK7; clear K7)
        refine TWp.cond_k fun K8 hK8 => ?_
        simp -implicitDefEqProofs (disch := omega) only [seval, go_sem]
        refine hK8 _ (fun hb => ?_) (fun hb => ?_) <;> clear hK8 <;> clear K8
        · try (replace hb := of_decide_eq_true hb)
          try (exact absurd hb (by decide))
          all_goals
            refine TWp.sr fun K9 hK9 => ?_
            simp -implicitDefEqProofs (disch := omega) only [seval, go_sem]
            repeat (with_reducible refine ⟨by first | omega | exact Keep.push _ _, ?_⟩)
            refine hK9 _ _ ?_; try (clear hK9; clear K9)
            refine TWp.ret ⟨.inr rfl, [_, _, _], ⟨rfl, rfl, rfl, trivial⟩, ?_⟩
            skip
        · try (replace hb := of_decide_eq_false hb)
          try (exact absurd hb (by decide))
          all_goals
            refine TWp.skip ?_
            refine hK6 _ _ ?_; try (clear hK6; clear K6)
            refine TWp.sd [(0, 0), (1, 0), (2, 0), (3, 0), (4, 0), (5, 0), (6, 0)] followsN (by kernel_rfl) fun K10 hK10 => ?_
            simp -implicitDefEqProofs (disch := omega) only [seval, go_sem]
            repeat (with_reducible refine ⟨by first | omega | exact Keep.push _ _, ?_⟩)
            refine hK10 _ _ ?_; try (clear hK10; clear K10)
            refine TWp.ret ⟨.inr rfl, [_, _, _], ⟨rfl, rfl, rfl, trivial⟩, ?_⟩
            exact ⟨(split_yes (by omega) (by omega) (by simpa using ‹(!rightS (s.drop 33)) = false›) hok).symm, Keep.push _ _⟩

set_option maxRecDepth 8000 in
set_option maxHeartbeats 1000000 in
theorem c_godownref07_Split_false (S : TS) (s : Bs) (hs : s.length ≤ 100000) (hok : okB (s.take 32) = false) : TCall env 13 [.lit (.string (st s))] S fun r S' => r = splitV s ∧ Keep S S' := by
  refine TCall.of 33 [.tmp 2, .tmp 3, .tmp 4] Tryd.func13 rfl rfl rfl rfl (by kernel_rfl) rfl ?_
  refine TWp.sr fun K0 hK0 => ?_
  simp -implicitDefEqProofs (disch := omega) only [seval, go_sem]
  repeat (with_reducible refine ⟨by first | omega | exact Keep.push _ _, ?_⟩)
  refine hK0 _ _ ?_; try (clear hK0; clear K0)
  refine TWp.seq_k fun K1 hK1 => ?_
  refine TWp.sr fun K2 hK2 => ?_
  simp -implicitDefEqProofs (disch := omega) only [seval, go_sem]
  repeat' (first | with_reducible refine ⟨by first | omega | exact Keep.push _ _, ?_⟩ | (refine brT_split (fun hb => ?_) (fun hb => ?_) <;> (have hb' := hb; try simp only [decide_eq_true_eq, decide_eq_false_iff_not] at hb') <;> simp -implicitDefEqProofs (disch := omega) only [seval, go_sem, hb]))
  all_goals try (refine c_godownref07_Right ?_; simp -implicitDefEqProofs (disch := omega) only [seval, go_sem])
  all_goals repeat' (first | with_reducible refine ⟨by first | omega | exact Keep.push _ _, ?_⟩ | (refine brT_split (fun hb => ?_) (fun hb => ?_) <;> (have hb' := hb; try simp only [decide_eq_true_eq, decide_eq_false_iff_not] at hb') <;> simp -implicitDefEqProofs (disch := omega) only [seval, go_sem, hb]))
  all_goals
    refine hK2 _ _ ?_; try (clear hK2; clear K2)
    refine TWp.cond_k fun K3 hK3 => ?_
    simp -implicitDefEqProofs (disch := omega) only [seval, go_sem]
    refine hK3 _ (fun hb => ?_) (fun hb => ?_) <;> clear hK3 <;> clear K3
    · try (replace hb := of_decide_eq_true hb)
      try (exact absurd hb (by decide))
      all_goals
        refine TWp.sr fun K4 hK4 => ?_
        simp -implicitDefEqProofs (disch := omega) only [seval, go_sem]
        repeat (with_reducible refine ⟨by first | omega | exact Keep.push _ _, ?_⟩)
        refine hK4 _ _ ?_; try (clear hK4; clear K4)
        refine TWp.ret ⟨.inr rfl, [_, _, _], ⟨rfl, rfl, rfl, trivial⟩, ?_⟩
        exact ⟨(split_no (by first | exact .inl (by omega) | exact .inr (.inl (by omega)) | exact .inr (.inr (.inl (by simpa using hb))))).symm, Keep.refl _⟩
    · try (replace hb := of_decide_eq_false hb)
      try (exact absurd hb (by decide))
      all_goals
        refine TWp.skip ?_
        refine hK1 _ _ ?_; try (clear hK1; clear K1)
        refine TWp.sr fun K5 hK5 => ?_
        simp -implicitDefEqProofs (disch := omega) only [seval, go_sem]
        repeat (with_reducible refine ⟨by first | omega | exact Keep.push _ _, ?_⟩)
        refine c_godownref03_Bytes_no ?_ ((dec3_whole (by rw [List.length_take]; omega)).trans (if_neg (by rw [hok]; simp))) (by rw [List.length_take]; omega)
        simp -implicitDefEqProofs (disch := omega) only [seval, go_sem]
        repeat (with_reducible refine ⟨by first | omega | exact Keep.push _ _, ?_⟩)
        refine hK5 _ _ ?_; try (clear hK5; clear K5)
        refine TWp.seq_k fun K6 hK6 => ?_
        refine TWp.sr fun K7 hK7 => ?_
        simp -implicitDefEqProofs (disch := omega) only [seval, go_sem]
        repeat (with_reducible refine ⟨by first | omega | exact Keep.push _ _, ?_⟩)
        refine hK7 _ _ ?_; try (clear hK7; clear K7)
        refine TWp.cond_k fun K8 hK8 => ?_
        simp -implicitDefEqProofs (disch := omega) only [seval, go_sem]
        refine hK8 _ (fun hb => ?_) (fun hb => ?_) <;> clear hK8 <;> clear K8
        · try (replace hb := of_decide_eq_true hb)
          try (exact absurd hb (by decide))
          all_goals
            refine TWp.sr fun K9 hK9 => ?_
            simp -implicitDefEqProofs (disch := omega) only [seval, go_sem]
            repeat (with_reducible refine ⟨by first | omega | exact Keep.push _ _, ?_⟩)
            refine hK9 _ _ ?_; try (clear hK9; clear K9)
            refine TWp.ret ⟨.inr rfl, [_, _, _], ⟨rfl, rfl, rfl, trivial⟩, ?_⟩
            exact ⟨(split_no (.inr (.inr (.inr hok)))).symm, Keep.refl _⟩
        · try (replace hb := of_decide_eq_false hb)
          try (exact absurd hb (by decide))
          all_goals
            refine TWp.skip ?_
            refine hK6 _ _ ?_; try (clear hK6; clear K6)
            refine TWp.sd [(0, 0), (1, 0), (2, 0), (3, 0), (4, 0), (5, 0), (6, 0)] followsN (by kernel_rfl) fun K10 hK10 => ?_
            simp -implicitDefEqProofs (disch := omega) only [seval, go_sem]
            repeat (with_reducible refine ⟨by first | omega | exact Keep.push _ _, ?_⟩)
            refine hK10 _ _ ?_; try (clear hK10; clear K10)
            refine TWp.ret ⟨.inr rfl, [_, _, _], ⟨rfl, rfl, rfl, trivial⟩, ?_⟩
            skip

theorem ren_splitV (n : Nat) (s : Bs) : Ren n [] (splitV s) (splitV s) := by
  unfold splitV
  split
  · exact .tupF (.cons (.lit _) (.cons (.lit _) (.cons (.lit _) .nil)))
  · exact .tupF (.cons (.lit _) (.cons (.lit _) (.cons (.lit _) .nil)))
theorem c_godownref07_Split {S : TS} {s : Bs} {K : TV → TS → Prop} (hK : K (splitV s) S) (hs : s.length ≤ 100000 := by omega) : TCall env 13 [.lit (.string (st s))] S K := by
  refine (TCall.pure (r := splitV s) ?_ (ren_splitV _ _)).mono fun t S' ⟨h1, h2⟩ => by rw [h1, h2]; exact hK
  cases hok : okB (s.take 32)
  · exact c_godownref07_Split_false S s hs hok
  · exact c_godownref07_Split_true S s hs hok

def splitA (s : Bs) : Bs := match splitS s with | some (a, _) => a | none => []
def splitB (s : Bs) : Bs := match splitS s with | some (_, b) => b | none => []
def isP (s : Bs) : Bool := (splitS s).isSome
theorem splitV_eq (s : Bs) : splitV s = .tup [.lit (.string (st (splitA s))), .lit (.string (st (splitB s))), .lit (.bool (isP s))] := by
  unfold splitV splitA splitB isP
  rcases splitS s with _ | ⟨a, b⟩ <;> rfl
set_option maxRecDepth 8000 in
set_option maxHeartbeats 1000000 in
theorem c_godownref07_Is_ok (S : TS) (s : Bs) (hs : s.length ≤ 100000) : TCall env 33 [.lit (.string (st s))] S fun r S' => r = .lit (.bool (isP s)) ∧ S' = S := by
  refine TCall.of 13 [.tmp 2] Tryd.func33 rfl rfl rfl rfl (by kernel_rfl) rfl ?_
  refine TWp.sr fun K0 hK0 => ?_
  simp -implicitDefEqProofs (disch := omega) only [seval, go_sem]
  repeat (with_reducible refine ⟨by first | omega | exact Keep.push _ _, ?_⟩)
  refine hK0 _ _ ?_; try (clear hK0; clear K0)
  refine TWp.sr fun K1 hK1 => ?_
  simp -implicitDefEqProofs (disch := omega) only [seval, go_sem]
  repeat (with_reducible refine ⟨by first | omega | exact Keep.push _ _, ?_⟩)
  refine c_godownref07_Split ?_
  rw [splitV_eq]
  simp -implicitDefEqProofs (disch := omega) only [seval, go_sem]
  repeat (with_reducible refine ⟨by first | omega | exact Keep.push _ _, ?_⟩)
  refine hK1 _ _ ?_; try (clear hK1; clear K1)
  refine TWp.sr fun K2 hK2 => ?_
  simp -implicitDefEqProofs (disch := omega) only [seval, go_sem]
  repeat (with_reducible refine ⟨by first | omega | exact Keep.push _ _, ?_⟩)
  refine hK2 _ _ ?_; try (clear hK2; clear K2)
  refine TWp.ret ⟨.inr rfl, [_], ⟨rfl, trivial⟩, ?_⟩
  exact ⟨rfl, rfl⟩

theorem c_godownref07_Is {S : TS} {s : Bs} {K : TV → TS → Prop} (hK : K (.lit (.bool (isP s))) S) (hs : s.length ≤ 100000 := by omega) : TCall env 33 [.lit (.string (st s))] S K :=
  (c_godownref07_Is_ok S s hs).mono fun t S' ⟨h1, h2⟩ => by rw [h1, h2]; exact hK

end Go.Proofs.YtiijiejncefpmaaDoor
namespace Go.Proofs.YtiijiejncefpmaaDoor
open Go.RowKit TL

theorem c_abi_NoEscape {S : TS} {t : TV} {K : TV → TS → Prop} (hK : K t S) : TCall env 105 [t] S K := by
  refine TCall.of_extern (e := Extern.AbiNoEscape.same) Tryd.func105 rfl rfl (by kernel_rfl) (by kernel_rfl) fun w0 c0 w vs hk hv => ?_
  have h0 : vs.size = 1 := hv.size
  have hlt : 0 < vs.size := by omega
  have e : vs = #[vs[0]] := by
    apply Array.ext
    · simpa using h0
    · intro i h1 h2
      have : i = 0 := by omega
      subst this
      rfl
  rw [e]
  exact ⟨vs[0], w, rfl, t, c0, S, hk, Mono.refl _ _, hv.rd 0 _ _ rfl (Array.getElem?_eq_getElem hlt), hK⟩
end Go.Proofs.YtiijiejncefpmaaDoor
namespace Go.Proofs.YtiijiejncefpmaaDoor
open Go.RowKit TL

theorem ne_len {α : Type} [DecidableEq α] {a b : List α} (h : a.length ≠ b.length) : decide (a = b) = false := decide_eq_false fun e => h (by rw [e])
theorem ne_at {α : Type} [DecidableEq α] {a b : List α} {d : α} {i : Nat} (h : a.getD i d ≠ b.getD i d) : decide (a = b) = false := decide_eq_false fun e => h (by rw [e])
theorem eq_all {α : Type} [DecidableEq α] {a b : List α} {d : α} (hl : a.length = b.length) (h : ∀ j, j < a.length → a.getD j d = b.getD j d) : decide (a = b) = true := by
  refine decide_eq_true (List.ext_getElem hl fun i h1 h2 => ?_)
  have := h i h1
  rwa [List.getD_eq_getElem?_getD, List.getD_eq_getElem?_getD, List.getElem?_eq_getElem h1, List.getElem?_eq_getElem h2] at this

set_option maxRecDepth 8000 in
set_option maxHeartbeats 1000000 in
theorem c_godownref01_Ints_ok (S : TS) (g1 g2 : Tag) (a b : List Int) (ha : a.length ≤ 1000000) : TCall env 26 [.sl g1 1 (dI a), .sl g2 1 (dI b)] S fun r S' => r = .lit (.bool (decide (a = b))) ∧ S' = S := by
  refine TCall.of 26 [.tmp 4] Tryd.func26 rfl rfl rfl rfl (by kernel_rfl) rfl ?_
  refine TWp.sr fun K0 hK0 => ?_
  simp -implicitDefEqProofs (disch := omega) only [seval, go_sem]
  repeat (with_reducible refine ⟨by first | omega | exact Keep.push _ _, ?_⟩)
  refine hK0 _ _ ?_; try (clear hK0; clear K0)
  refine TWp.seq_k fun K1 hK1 => ?_
  refine TWp.sr fun K2 hK2 => ?_
  simp -implicitDefEqProofs (disch := omega) only [seval, go_sem]
  repeat (with_reducible refine ⟨by first | omega | exact Keep.push _ _, ?_⟩)
  refine hK2 _ _ ?_; try (clear hK2; clear K2)
  refine TWp.cond_k fun K3 hK3 => ?_
  simp -implicitDefEqProofs (disch := omega) only [seval, go_sem]
  refine hK3 _ (fun hb => ?_) (fun hb => ?_) <;> clear hK3 <;> clear K3
  · try (replace hb := of_decide_eq_true hb)
    refine TWp.sr fun K4 hK4 => ?_
    simp -implicitDefEqProofs (disch := omega) only [seval, go_sem]
    repeat (with_reducible refine ⟨by first | omega | exact Keep.push _ _, ?_⟩)
    refine hK4 _ _ ?_; try (clear hK4; clear K4)
    refine TWp.ret ⟨.inr rfl, [_], ⟨rfl, trivial⟩, ?_⟩
    exact ⟨by show TV.lit _ = _; rw [ne_len (by omega)], rfl⟩
  · try (replace hb := of_decide_eq_false hb)
    refine TWp.skip ?_
    refine hK1 _ _ ?_; try (clear hK1; clear K1)
    refine TWp.seq_k fun K5 hK5 => ?_
    refine TWp.sr fun K6 hK6 => ?_
    simp -implicitDefEqProofs (disch := omega) only [seval, go_sem]
    repeat (with_reducible refine ⟨by first | omega | exact Keep.push _ _, ?_⟩)
    refine hK6 _ _ ?_; try (clear hK6; clear K6)
    refine TWp.block ?_
    refine TWp.loop (fun n T S' => ∃ i : Nat, n + i = a.length ∧ T 0 = .sl g1 1 (dI a) ∧ T 1 = .sl g2 1 (dI b) ∧ T 5 = .lit (.int .i64 (i : Int)) ∧ (∀ j, j < i → a.getD j 0 = b.getD j 0) ∧ S' = S) (a.length) ?_ ?_
    · exact ⟨0, rfl, rfl, rfl, rfl, fun j hj => absurd hj (by omega), rfl⟩
    rintro n T S' ⟨i, hi, h0, h1, h5, he, hS⟩
    have hlen : a.length = b.length := by omega
    refine TWp.seq_k fun K7 hK7 => ?_
    refine TWp.sr fun K8 hK8 => ?_
    simp -implicitDefEqProofs (disch := omega) only [seval, go_sem, h0, h1, h5]
    repeat (with_reducible refine ⟨by first | omega | exact Keep.push _ _, ?_⟩)
    refine hK8 _ _ ?_; try (clear hK8; clear K8)
    refine TWp.cond_k fun K9 hK9 => ?_
    simp -implicitDefEqProofs (disch := omega) only [seval, go_sem, h0, h1, h5]
    refine hK9 _ (fun hb => ?_) (fun hb => ?_) <;> clear hK9 <;> clear K9
    · try (replace hb := of_decide_eq_true hb)
      refine TWp.skip ?_
      refine hK7 _ _ ?_; try (clear hK7; clear K7)
      refine TWp.seq_k fun K10 hK10 => ?_
      refine TWp.block ?_
      refine TWp.sd [(0, 0), (1, 0), (2, 0), (3, 0), (4, 0), (5, 0), (6, 0), (7, 0), (8, 0)] followsN (by kernel_rfl) fun K11 hK11 => ?_
      simp -implicitDefEqProofs (disch := omega) only [seval, go_sem, h0, h1, h5]
      repeat (with_reducible refine ⟨by first | omega | exact Keep.push _ _, ?_⟩)
      refine hK11 _ _ ?_; try (clear hK11; clear K11)
      refine TWp.cond_k fun K12 hK12 => ?_
      simp -implicitDefEqProofs (disch := omega) only [seval, go_sem, h0, h1, h5]
      refine hK12 _ (fun hb => ?_) (fun hb => ?_) <;> clear hK12 <;> clear K12
      · try (replace hb := of_decide_eq_true hb)
        refine TWp.sr fun K13 hK13 => ?_
        simp -implicitDefEqProofs (disch := omega) only [seval, go_sem, h0, h1, h5]
        repeat (with_reducible refine ⟨by first | omega | exact Keep.push _ _, ?_⟩)
        refine hK13 _ _ ?_; try (clear hK13; clear K13)
        refine TWp.ret ⟨.inr rfl, [_], ⟨rfl, trivial⟩, ?_⟩
        exact ⟨by show TV.lit _ = _; rw [ne_at (d := 0) (i := i) hb], hS⟩
      · try (replace hb := of_decide_eq_false hb)
        refine TWp.skip ?_
        refine hK10 _ _ ?_; try (clear hK10; clear K10)
        refine TWp.rk fun K14 hK14 => ?_
        simp -implicitDefEqProofs (disch := omega) only [seval, go_sem, h0, h1, h5]
        repeat (with_reducible refine ⟨by first | omega | exact Keep.push _ _, ?_⟩)
        refine hK14 _ _ ?_; try (clear hK14; clear K14)
        exact ⟨n - 1, by omega, i + 1, by omega, h0, h1, rfl, fun j hj => by
          rcases Nat.lt_succ_iff_lt_or_eq.1 hj with h | h
          · exact he j h
          · rw [h]; exact Classical.byContradiction hb, hS⟩
    · try (replace hb := of_decide_eq_false hb)
      refine TWp.exit ?_
      refine hK5 _ _ ?_; try (clear hK5; clear K5)
      refine TWp.sr fun K15 hK15 => ?_
      simp -implicitDefEqProofs (disch := omega) only [seval, go_sem, h0, h1, h5]
      repeat (with_reducible refine ⟨by first | omega | exact Keep.push _ _, ?_⟩)
      refine hK15 _ _ ?_; try (clear hK15; clear K15)
      refine TWp.ret ⟨.inr rfl, [_], ⟨rfl, trivial⟩, ?_⟩
      exact ⟨by show TV.lit _ = _; rw [eq_all (d := 0) hlen fun j hj => he j (by omega)], hS⟩
theorem c_godownref01_Ints {S : TS} {g1 g2 : Tag} {a b : List Int} {K : TV → TS → Prop} (hK : K (.lit (.bool (decide (a = b)))) S) (ha : a.length ≤ 1000000 := by omega) : TCall env 26 [.sl g1 1 (dI a), .sl g2 1 (dI b)] S K :=
  (c_godownref01_Ints_ok S g1 g2 a b ha).mono fun t S' ⟨h1, h2⟩ => by rw [h1, h2]; exact hK

set_option maxRecDepth 8000 in
set_option maxHeartbeats 1000000 in
theorem c_godownref01_Texts_ok (S : TS) (g1 g2 : Tag) (a b : List Bs) (ha : a.length ≤ 1000000) : TCall env 29 [.sl g1 1 (dT a), .sl g2 1 (dT b)] S fun r S' => r = .lit (.bool (decide (a = b))) ∧ S' = S := by
  refine TCall.of 26 [.tmp 4] Tryd.func29 rfl rfl rfl rfl (by kernel_rfl) rfl ?_
  refine TWp.sr fun K0 hK0 => ?_
  simp -implicitDefEqProofs (disch := omega) only [seval, go_sem]
  repeat (with_reducible refine ⟨by first | omega | exact Keep.push _ _, ?_⟩)
  refine hK0 _ _ ?_; try (clear hK0; clear K0)
  refine TWp.seq_k fun K1 hK1 => ?_
  refine TWp.sr fun K2 hK2 => ?_
  simp -implicitDefEqProofs (disch := omega) only [seval, go_sem]
  repeat (with_reducible refine ⟨by first | omega | exact Keep.push _ _, ?_⟩)
  refine hK2 _ _ ?_; try (clear hK2; clear K2)
  refine TWp.cond_k fun K3 hK3 => ?_
  simp -implicitDefEqProofs (disch := omega) only [seval, go_sem]
  refine hK3 _ (fun hb => ?_) (fun hb => ?_) <;> clear hK3 <;> clear K3
  · try (replace hb := of_decide_eq_true hb)
    refine TWp.sr fun K4 hK4 => ?_
    simp -implicitDefEqProofs (disch := omega) only [seval, go_sem]
    repeat (with_reducible refine ⟨by first | omega | exact Keep.push _ _, ?_⟩)
    refine hK4 _ _ ?_; try (clear hK4; clear K4)
    refine TWp.ret ⟨.inr rfl, [_], ⟨rfl, trivial⟩, ?_⟩
    exact ⟨by show TV.lit _ = _; rw [ne_len (by omega)], rfl⟩
  · try (replace hb := of_decide_eq_false hb)
    refine TWp.skip ?_
    refine hK1 _ _ ?_; try (clear hK1; clear K1)
    refine TWp.seq_k fun K5 hK5 => ?_
    refine TWp.sr fun K6 hK6 => ?_
    simp -implicitDefEqProofs (disch := omega) only [seval, go_sem]
    repeat (with_reducible refine ⟨by first | omega | exact Keep.push _ _, ?_⟩)
    refine hK6 _ _ ?_; try (clear hK6; clear K6)
    refine TWp.block ?_
    refine TWp.loop (fun n T S' => ∃ i : Nat, n + i = a.length ∧ T 0 = .sl g1 1 (dT a) ∧ T 1 = .sl g2 1 (dT b) ∧ T 5 = .lit (.int .i64 (i : Int)) ∧ (∀ j, j < i → a.getD j [] = b.getD j []) ∧ S' = S) (a.length) ?_ ?_
    · exact ⟨0, rfl, rfl, rfl, rfl, fun j hj => absurd hj (by omega), rfl⟩
    rintro n T S' ⟨i, hi, h0, h1, h5, he, hS⟩
    have hlen : a.length = b.length := by omega
    refine TWp.seq_k fun K7 hK7 => ?_
    refine TWp.sr fun K8 hK8 => ?_
    simp -implicitDefEqProofs (disch := omega) only [seval, go_sem, h0, h1, h5]
    repeat (with_reducible refine ⟨by first | omega | exact Keep.push _ _, ?_⟩)
    refine hK8 _ _ ?_; try (clear hK8; clear K8)
    refine TWp.cond_k fun K9 hK9 => ?_
    simp -implicitDefEqProofs (disch := omega) only [seval, go_sem, h0, h1, h5]
    refine hK9 _ (fun hb => ?_) (fun hb => ?_) <;> clear hK9 <;> clear K9
    · try (replace hb := of_decide_eq_true hb)
      refine TWp.skip ?_
      refine hK7 _ _ ?_; try (clear hK7; clear K7)
      refine TWp.seq_k fun K10 hK10 => ?_
      refine TWp.block ?_
      refine TWp.sd [(0, 0), (1, 0), (2, 0), (3, 0), (4, 0), (5, 0), (6, 0), (7, 0), (8, 0)] followsN (by kernel_rfl) fun K11 hK11 => ?_
      simp -implicitDefEqProofs (disch := omega) only [seval, go_sem, h0, h1, h5]
      repeat (with_reducible refine ⟨by first | omega | exact Keep.push _ _, ?_⟩)
      refine hK11 _ _ ?_; try (clear hK11; clear K11)
      refine TWp.cond_k fun K12 hK12 => ?_
      simp -implicitDefEqProofs (disch := omega) only [seval, go_sem, h0, h1, h5]
      refine hK12 _ (fun hb => ?_) (fun hb => ?_) <;> clear hK12 <;> clear K12
      · try (replace hb := of_decide_eq_true hb)
        refine TWp.sr fun K13 hK13 => ?_
        simp -implicitDefEqProofs (disch := omega) only [seval, go_sem, h0, h1, h5]
        repeat (with_reducible refine ⟨by first | omega | exact Keep.push _ _, ?_⟩)
        refine hK13 _ _ ?_; try (clear hK13; clear K13)
        refine TWp.ret ⟨.inr rfl, [_], ⟨rfl, trivial⟩, ?_⟩
        exact ⟨by show TV.lit _ = _; rw [ne_at (d := []) (i := i) hb], hS⟩
      · try (replace hb := of_decide_eq_false hb)
        refine TWp.skip ?_
        refine hK10 _ _ ?_; try (clear hK10; clear K10)
        refine TWp.rk fun K14 hK14 => ?_
        simp -implicitDefEqProofs (disch := omega) only [seval, go_sem, h0, h1, h5]
        repeat (with_reducible refine ⟨by first | omega | exact Keep.push _ _, ?_⟩)
        refine hK14 _ _ ?_; try (clear hK14; clear K14)
        exact ⟨n - 1, by omega, i + 1, by omega, h0, h1, rfl, fun j hj => by
          rcases Nat.lt_succ_iff_lt_or_eq.1 hj with h | h
          · exact he j h
          · rw [h]; exact Classical.byContradiction hb, hS⟩
    · try (replace hb := of_decide_eq_false hb)
      refine TWp.exit ?_
      refine hK5 _ _ ?_; try (clear hK5; clear K5)
      refine TWp.sr fun K15 hK15 => ?_
      simp -implicitDefEqProofs (disch := omega) only [seval, go_sem, h0, h1, h5]
      repeat (with_reducible refine ⟨by first | omega | exact Keep.push _ _, ?_⟩)
      refine hK15 _ _ ?_; try (clear hK15; clear K15)
      refine TWp.ret ⟨.inr rfl, [_], ⟨rfl, trivial⟩, ?_⟩
      exact ⟨by show TV.lit _ = _; rw [eq_all (d := []) hlen fun j hj => he j (by omega)], hS⟩
theorem c_godownref01_Texts {S : TS} {g1 g2 : Tag} {a b : List Bs} {K : TV → TS → Prop} (hK : K (.lit (.bool (decide (a = b)))) S) (ha : a.length ≤ 1000000 := by omega) : TCall env 29 [.sl g1 1 (dT a), .sl g2 1 (dT b)] S K :=
  (c_godownref01_Texts_ok S g1 g2 a b ha).mono fun t S' ⟨h1, h2⟩ => by rw [h1, h2]; exact hK

theorem mem_at {l : List Bs} {x : Bs} {i : Nat} (hi : i < l.length) (h : l.getD i [] = x) : x ∈ l := by
  rw [List.getD_eq_getElem?_getD, List.getElem?_eq_getElem hi] at h
  rw [← h]; exact List.getElem_mem hi
set_option maxRecDepth 8000 in
set_option maxHeartbeats 1000000 in
theorem c_godownref01_Has_ok (S : TS) (g : Tag) (l : List Bs) (x : Bs) (hl : l.length ≤ 1000000) : TCall env 34 [.sl g 1 (dT l), .lit (.string (st x))] S fun r S' => r = .lit (.bool (decide (x ∈ l))) ∧ S' = S := by
  refine TCall.of 18 [.tmp 4] Tryd.func34 rfl rfl rfl rfl (by kernel_rfl) rfl ?_
  refine TWp.sr fun K0 hK0 => ?_
  simp -implicitDefEqProofs (disch := omega) only [seval, go_sem]
  repeat (with_reducible refine ⟨by first | omega | exact Keep.push _ _, ?_⟩)
  refine hK0 _ _ ?_; try (clear hK0; clear K0)
  refine TWp.seq_k fun K1 hK1 => ?_
  refine TWp.sr fun K2 hK2 => ?_
  simp -implicitDefEqProofs (disch := omega) only [seval, go_sem]
  repeat (with_reducible refine ⟨by first | omega | exact Keep.push _ _, ?_⟩)
  refine hK2 _ _ ?_; try (clear hK2; clear K2)
  refine TWp.block ?_
  refine TWp.loop (fun n T S' => ∃ i : Nat, n + i = l.length ∧ T 0 = .sl g 1 (dT l) ∧ T 1 = .lit (.string (st x)) ∧ T 5 = .lit (.int .i64 (i : Int)) ∧ (∀ j, j < i → l.getD j [] ≠ x) ∧ S' = S) (l.length) ?_ ?_
  · exact ⟨0, rfl, rfl, rfl, rfl, fun j hj => absurd hj (by omega), rfl⟩
  rintro n T S' ⟨i, hi, h0, h1, h5, he, hS⟩
  refine TWp.seq_k fun K3 hK3 => ?_
  refine TWp.sr fun K4 hK4 => ?_
  simp -implicitDefEqProofs (disch := omega) only [seval, go_sem, h0, h1, h5]
  repeat (with_reducible refine ⟨by first | omega | exact Keep.push _ _, ?_⟩)
  refine hK4 _ _ ?_; try (clear hK4; clear K4)
  refine TWp.cond_k fun K5 hK5 => ?_
  simp -implicitDefEqProofs (disch := omega) only [seval, go_sem, h0, h1, h5]
  refine hK5 _ (fun hb => ?_) (fun hb => ?_) <;> clear hK5 <;> clear K5
  · try (replace hb := of_decide_eq_true hb)
    refine TWp.skip ?_
    refine hK3 _ _ ?_; try (clear hK3; clear K3)
    refine TWp.seq_k fun K6 hK6 => ?_
    refine TWp.block ?_
    refine TWp.sr fun K7 hK7 => ?_
    simp -implicitDefEqProofs (disch := omega) only [seval, go_sem, h0, h1, h5]
    repeat (with_reducible refine ⟨by first | omega | exact Keep.push _ _, ?_⟩)
    refine hK7 _ _ ?_; try (clear hK7; clear K7)
    refine TWp.cond_k fun K8 hK8 => ?_
    simp -implicitDefEqProofs (disch := omega) only [seval, go_sem, h0, h1, h5]
    refine hK8 _ (fun hb => ?_) (fun hb => ?_) <;> clear hK8 <;> clear K8
    · try (replace hb := of_decide_eq_true hb)
      refine TWp.sr fun K9 hK9 => ?_
      simp -implicitDefEqProofs (disch := omega) only [seval, go_sem, h0, h1, h5]
      repeat (with_reducible refine ⟨by first | omega | exact Keep.push _ _, ?_⟩)
      refine hK9 _ _ ?_; try (clear hK9; clear K9)
      refine TWp.ret ⟨.inr rfl, [_], ⟨rfl, trivial⟩, ?_⟩
      exact ⟨by show TV.lit _ = _; rw [decide_eq_true (mem_at (by omega) hb)], hS⟩
    · try (replace hb := of_decide_eq_false hb)
      refine TWp.skip ?_
      refine hK6 _ _ ?_; try (clear hK6; clear K6)
      refine TWp.rk fun K10 hK10 => ?_
      simp -implicitDefEqProofs (disch := omega) only [seval, go_sem, h0, h1, h5]
      repeat (with_reducible refine ⟨by first | omega | exact Keep.push _ _, ?_⟩)
      refine hK10 _ _ ?_; try (clear hK10; clear K10)
      exact ⟨n - 1, by omega, i + 1, by omega, h0, h1, rfl, fun j hj => by
        rcases Nat.lt_succ_iff_lt_or_eq.1 hj with h | h
        · exact he j h
        · rw [h]; exact hb, hS⟩
  · try (replace hb := of_decide_eq_false hb)
    refine TWp.exit ?_
    refine hK1 _ _ ?_; try (clear hK1; clear K1)
    refine TWp.sr fun K11 hK11 => ?_
    simp -implicitDefEqProofs (disch := omega) only [seval, go_sem, h0, h1, h5]
    repeat (with_reducible refine ⟨by first | omega | exact Keep.push _ _, ?_⟩)
    refine hK11 _ _ ?_; try (clear hK11; clear K11)
    refine TWp.ret ⟨.inr rfl, [_], ⟨rfl, trivial⟩, ?_⟩
    have hno : ¬ x ∈ l := fun hm => by
      obtain ⟨j, hj, e⟩ := List.getElem_of_mem hm
      exact he j (by omega) (by rw [List.getD_eq_getElem?_getD, List.getElem?_eq_getElem hj]; exact e)
    exact ⟨by show TV.lit _ = _; rw [decide_eq_false hno], hS⟩
theorem c_godownref01_Has {S : TS} {g : Tag} {l : List Bs} {x : Bs} {K : TV → TS → Prop} (hK : K (.lit (.bool (decide (x ∈ l)))) S) (hl : l.length ≤ 1000000 := by omega) : TCall env 34 [.sl g 1 (dT l), .lit (.string (st x))] S K :=
  (c_godownref01_Has_ok S g l x hl).mono fun t S' ⟨h1, h2⟩ => by rw [h1, h2]; exact hK

end Go.Proofs.YtiijiejncefpmaaDoor
namespace Go.Proofs.YtiijiejncefpmaaDoor.TL
open Go.RowKit

/-- What 'simp' does not look into. -/
inductive Pin {α : Type} (a : α) : Type
  | mk

def W (E : Env) (N : Nat) : Code → (Exit → (Nat → TV) → TS → Prop) → (Nat → TV) → TS → Prop
  | .skip, Q, T, S => Q .normal T S
  | .label _, Q, T, S => Q .normal T S
  | .exit id, Q, T, S => Q (.exit id) T S
  | .ret, Q, T, S => Q .ret T S
  | .seq a b, Q, T, S => W E N a (thenT (fun T S => W E N b Q T S) Q) T S
  | .cond o a b, Q, T, S => ∃ x, evO E T o = .lit (.bool x) ∧ (x = true → W E N a Q T S) ∧ (x = false → W E N b Q T S)
  | .block id c, Q, T, S => W E N c (blockT id Q) T S
  | .region _ ops true, Q, T, S => E.P.follows .mixedOrders = true ∧ ∃ l, chkD ops l = true ∧ evD E N ops l (fun T S => Q .normal T S) T S
  | .region _ ops false, Q, T, S => evL E N ops ops.toList (fun T S => Q .normal T S) T S
  | c, Q, T, S => TWp E N c Q T S

theorem W_ok {E : Env} {N : Nat} : ∀ {c : Code} {Q : Exit → (Nat → TV) → TS → Prop} {T : Nat → TV} {S : TS}, W E N c Q T S → TWp E N c Q T S
  | .skip, _, _, _, h => .skip h
  | .label _, _, _, _, h => .label h
  | .exit _, _, _, _, h => .exit h
  | .ret, _, _, _, h => .ret h
  | .seq a b, Q, T, S, h => .seq ((W_ok (c := a) h).mono fun e T' S' hq => by
      cases e with
      | normal => exact W_ok (c := b) hq
      | _ => exact hq)
  | .cond o a b, Q, T, S, h => by
      obtain ⟨x, h1, h2, h3⟩ := h
      exact .cond h1 (fun hx => W_ok (h2 hx)) (fun hx => W_ok (h3 hx))
  | .block id c, Q, T, S, h => .block (W_ok (c := c) h)
  | .region _ ops true, Q, T, S, h => by
      obtain ⟨hm, l, h1, h2⟩ := h
      exact .draw hm l h1 h2
  | .region _ ops false, Q, T, S, h => .reg h
  | .loop _, _, _, _, h => h
  | .rangeFunc .., _, _, _, h => h
  | .scope _, _, _, _, h => h
  | .goto _, _, _, _, h => h
  | .refuse _, _, _, _, h => h

section
variable {E : Env} {N : Nat}
def seqK (E : Env) (N : Nat) (b : Code) (_ : Pin b) (Q : Exit → (Nat → TV) → TS → Prop) : Exit → (Nat → TV) → TS → Prop := thenT (fun T S => W E N b Q T S) Q
def blkK (id : Nat) (Q : Exit → (Nat → TV) → TS → Prop) : Exit → (Nat → TV) → TS → Prop := blockT id Q
def nrmK (Q : Exit → (Nat → TV) → TS → Prop) : (Nat → TV) → TS → Prop := fun T S => Q .normal T S
def cdK (x : TV) (E : Env) (N : Nat) (a : Code) (_ : Pin a) (b : Code) (_ : Pin b) (Q : Exit → (Nat → TV) → TS → Prop) (T : Nat → TV) (_ : Pin T) (S : TS) : Prop := ∃ y, x = .lit (.bool y) ∧ (y = true → W E N a Q T S) ∧ (y = false → W E N b Q T S)
def drW (E : Env) (N : Nat) (ops : Array Oper) (_ : Pin ops) (K : (Nat → TV) → TS → Prop) (T : Nat → TV) (_ : Pin T) (S : TS) : Prop := E.P.follows .mixedOrders = true ∧ ∃ l, chkD ops l = true ∧ evD E N ops l K T S
def loW (E : Env) (N : Nat) (c : Code) (_ : Pin c) (Q : Exit → (Nat → TV) → TS → Prop) (T : Nat → TV) (S : TS) : Prop := TWp E N (.loop c) Q T S
abbrev nextK (I : Nat → (Nat → TV) → TS → Prop) (n : Nat) (T : Nat → TV) (S : TS) : Prop := ∃ m, m < n ∧ I m T S
def loopK (I : Nat → (Nat → TV) → TS → Prop) (n : Nat) (Q : Exit → (Nat → TV) → TS → Prop) : Exit → (Nat → TV) → TS → Prop := thenT (fun T S => nextK I n T S) Q
abbrev endR (R : TV → TS → Prop) (t : TV) (S : TS) : Prop := R t S
def endK (R : TV → TS → Prop) (S : TS) (ts : List TV) : Prop := R (tupT ts) S
def resT (E : Env) (T : Nat → TV) (S : TS) : List ResultVar → (List TV → Prop) → Prop
  | [], K => K []
  | .tmp i :: rs, K => resT E T S rs fun ts => K (T i :: ts)
  | .cell i ty :: rs, K => ∃ t, resOne E T S (.cell i ty) t ∧ resT E T S rs fun ts => K (t :: ts)
def finK (E : Env) (rs : List ResultVar) (R : TV → TS → Prop) : Exit → (Nat → TV) → TS → Prop := fun e T S => (e = .normal ∨ e = .ret) ∧ resT E T S rs (endK R S)

theorem resT_ok {T : Nat → TV} {S : TS} : ∀ {rs : List ResultVar} {K : List TV → Prop}, resT E T S rs K → ∃ ts, resAll E T S rs ts ∧ K ts
  | [], _, h => ⟨[], trivial, h⟩
  | .tmp i :: rs, K, h => by
    obtain ⟨ts, h1, h2⟩ := resT_ok (rs := rs) h
    exact ⟨T i :: ts, ⟨rfl, h1⟩, h2⟩
  | .cell i ty :: rs, K, h => by
    obtain ⟨t, h0, h⟩ := h
    obtain ⟨ts, h1, h2⟩ := resT_ok (rs := rs) h
    exact ⟨t :: ts, ⟨h0, h1⟩, h2⟩

theorem TCall.w {f : FuncId} {fn : Func} {body : Code} {args : List TV} {S : TS} {R : TV → TS → Prop} (N : Nat) (rs : List ResultVar) (hf : E.P.funcs[f]? = some fn) (hb : fn.body = some body) (hname : (fn.name == "runtime.NumGoroutine") = false)
    (hN : args.length + (fn.ntmps - args.length) = N) (hrs : fn.results.toList = rs) (hin : codeInb N body = true) (hres : rs.all (resInb N) = true)
    (h : W E N body (finK E rs R) (argsT args) S) : TCall E f args S R :=
  .of N rs hf hb hname hN hrs hin hres ((W_ok h).mono fun _ _ _ ⟨h1, h2⟩ => ⟨h1, resT_ok h2⟩)

variable {Q : Exit → (Nat → TV) → TS → Prop} {T : Nat → TV} {S : TS}
theorem W_skip : W E N .skip Q T S = Q .normal T S := rfl
theorem W_label (l : Nat) : W E N (.label l) Q T S = Q .normal T S := rfl
theorem W_exit (i : Nat) : W E N (.exit i) Q T S = Q (.exit i) T S := rfl
theorem W_ret : W E N .ret Q T S = Q .ret T S := rfl
theorem W_seq (a b : Code) : W E N (.seq a b) Q T S = W E N a (seqK E N b .mk Q) T S := rfl
theorem W_cond (o : Operand) (a b : Code) : W E N (.cond o a b) Q T S = cdK (evO E T o) E N a .mk b .mk Q T .mk S := rfl
theorem W_block (i : Nat) (c : Code) : W E N (.block i c) Q T S = W E N c (blkK i Q) T S := rfl
theorem W_draw (i : Nat) (ops : Array Oper) : W E N (.region i ops true) Q T S = drW E N ops .mk (nrmK Q) T .mk S := rfl
theorem W_region (i : Nat) (ops : Array Oper) : W E N (.region i ops false) Q T S = evL E N ops ops.toList (nrmK Q) T S := rfl
theorem W_loop (c : Code) : W E N (.loop c) Q T S = loW E N c .mk Q T S := rfl
theorem seqK_n {b : Code} {p : Pin b} : seqK E N b p Q .normal T S = W E N b Q T S := rfl
theorem seqK_r {b : Code} {p : Pin b} : seqK E N b p Q .ret T S = Q .ret T S := rfl
theorem seqK_e {b : Code} {p : Pin b} {i : Nat} : seqK E N b p Q (.exit i) T S = Q (.exit i) T S := rfl
theorem blkK_n {j : Nat} : blkK j Q .normal T S = Q .normal T S := rfl
theorem blkK_r {j : Nat} : blkK j Q .ret T S = Q .ret T S := rfl
theorem blkK_e {i j : Nat} : blkK j Q (.exit i) T S = if i = j then Q .normal T S else Q (.exit i) T S := rfl
theorem nrmK_app : nrmK Q T S = Q .normal T S := rfl
theorem loopK_n {I : Nat → (Nat → TV) → TS → Prop} {n : Nat} : loopK I n Q .normal T S = nextK I n T S := rfl
theorem loopK_r {I : Nat → (Nat → TV) → TS → Prop} {n : Nat} : loopK I n Q .ret T S = Q .ret T S := rfl
theorem loopK_e {I : Nat → (Nat → TV) → TS → Prop} {n i : Nat} : loopK I n Q (.exit i) T S = Q (.exit i) T S := rfl
theorem finK_n {rs : List ResultVar} {R : TV → TS → Prop} : finK E rs R .normal T S = resT E T S rs (endK R S) := by simp [finK]
theorem finK_r {rs : List ResultVar} {R : TV → TS → Prop} : finK E rs R .ret T S = resT E T S rs (endK R S) := by simp [finK]
theorem resT_nil {K : List TV → Prop} : resT E T S [] K = K [] := rfl
theorem resT_tmp {i : Nat} {rs : List ResultVar} {K : List TV → Prop} : resT E T S (.tmp i :: rs) K = resT E T S rs fun ts => K (T i :: ts) := rfl
theorem resT_cell {i : Nat} {ty : TypeId} {rs : List ResultVar} {K : List TV → Prop} : resT E T S (.cell i ty :: rs) K = ∃ t, resOne E T S (.cell i ty) t ∧ resT E T S rs fun ts => K (t :: ts) := rfl
theorem endK_1 {R : TV → TS → Prop} {t : TV} : endK R S [t] = endR R t S := rfl
theorem endK_0 {R : TV → TS → Prop} : endK R S [] = endR R (.tup []) S := rfl
theorem endK_2 {R : TV → TS → Prop} {t u : TV} {ts : List TV} : endK R S (t :: u :: ts) = endR R (.tup (t :: u :: ts)) S := rfl
section
variable {a b : Code} {pa : Pin a} {pb : Pin b} {pT : Pin T}
theorem cdK_t : cdK (.lit (.bool true)) E N a pa b pb Q T pT S = W E N a Q T S := by
  unfold cdK
  refine propext ⟨fun ⟨y, h1, h2, h3⟩ => ?_, fun h => ⟨true, rfl, (fun _ => h), (fun h => by cases h)⟩⟩
  injection h1 with h1; injection h1 with h1; exact h2 h1.symm
theorem cdK_f : cdK (.lit (.bool false)) E N a pa b pb Q T pT S = W E N b Q T S := by
  unfold cdK
  refine propext ⟨fun ⟨y, h1, h2, h3⟩ => ?_, fun h => ⟨false, rfl, (fun h => by cases h), fun _ => h⟩⟩
  injection h1 with h1; injection h1 with h1; exact h3 h1.symm
theorem cdK_b {x : Bool} (ht : x = true → W E N a Q T S) (hf : x = false → W E N b Q T S) : cdK (.lit (.bool x)) E N a pa b pb Q T pT S := ⟨x, rfl, ht, hf⟩
theorem cdK_d {p : Prop} {hd : Decidable p} (ht : p → W E N a Q T S) (hf : ¬ p → W E N b Q T S) : cdK (.lit (.bool (@decide p hd))) E N a pa b pb Q T pT S := ⟨_, rfl, fun h => ht (of_decide_eq_true h), fun h => hf (of_decide_eq_false h)⟩
end
theorem drW_at {ops : Array Oper} {p : Pin ops} {pT : Pin T} {K : (Nat → TV) → TS → Prop} (l : List Ent2) (hm : E.P.follows .mixedOrders = true) (hc : chkD ops l = true) (h : evD E N ops l K T S) : drW E N ops p K T pT S := ⟨hm, l, hc, h⟩
theorem loW_inv {c : Code} {p : Pin c} (I : Nat → (Nat → TV) → TS → Prop) (n : Nat) (h0 : I n T S) (round : ∀ n T S, I n T S → W E N c (loopK I n Q) T S) : loW E N c p Q T S :=
  .loop I n h0 fun n T S h => (W_ok (round n T S h)).mono fun e _ _ hq => by cases e <;> exact hq
def idQ : Nat → Nat → List Ent2
  | 0, _ => []
  | n + 1, i => (i, 0) :: idQ n (i + 1)
/-- A side condition that 'omega' shows. -/
theorem and_side {p q : Prop} (h : p) : (p ∧ q) = q := propext ⟨fun h => h.2, fun h' => ⟨h, h'⟩⟩
theorem dec_t {p : Prop} {hd : Decidable p} (h : p) : @decide p hd = true := decide_eq_true h
theorem dec_f {p : Prop} {hd : Decidable p} (h : ¬ p) : @decide p hd = false := decide_eq_false h
end
theorem tvBin_pp (P : Program) (op : BinOp) (ty : TypeId) (a b : Option Addr) : tvBin P op ty (.pointer a) (.pointer b) = none := rfl
theorem tvBin_mm (P : Program) (op : BinOp) (ty : TypeId) (a b : Option Nat) : tvBin P op ty (.map a) (.map b) = none := rfl
def bbT (d : Option TypeDesc) (op : BinOp) (a b : Bool) : Option Value :=
  match d, op with
  | some .bool, .eql => some (.bool (decide (a = b)))
  | some .bool, .neq => some (.bool (decide (a ≠ b)))
  | _, _ => none
theorem tvBin_bb (P : Program) (op : BinOp) (ty : TypeId) (a b : Bool) : tvBin P op ty (.bool a) (.bool b) = bbT (P.underlying ty) op a b := by
  change (match P.underlying ty, op with | some .bool, .eql => some (Value.bool (a == b)) | some .bool, .neq => some (.bool !(a == b)) | _, _ => none) = bbT (P.underlying ty) op a b
  generalize P.underlying ty = d
  unfold bbT
  cases a <;> cases b <;> rfl
theorem bbT_e (a b : Bool) : bbT (some .bool) .eql a b = some (.bool (decide (a = b))) := rfl
theorem bbT_n (a b : Bool) : bbT (some .bool) .neq a b = some (.bool (decide (a ≠ b))) := rfl
attribute [go_sem] tvBin_bb bbT_e bbT_n
attribute [go_sem] tvBin_pp tvBin_mm ptrEq nilB isEq not_false_eq_true
/-- All but some objects are as they were. -/
structure Fr (S S' : TS) (L : List Nat) : Prop where
  n : S.n ≤ S'.n
  o : ∀ id, id < S.n → id ∉ L → S'.objs id = S.objs id
theorem Fr.refl (S : TS) (L : List Nat) : Fr S S L := ⟨Nat.le_refl _, fun _ _ _ => rfl⟩
theorem Fr.push {S S' : TS} {L : List Nat} (h : Fr S S' L) (o : TObj) : Fr S (S'.push o) L :=
  ⟨Nat.le_succ_of_le h.n, fun id hi hl => by rw [TS.push_objs, if_neg (by have := h.n; omega)]; exact h.o id hi hl⟩
theorem Fr.set {S S' : TS} {L : List Nat} (h : Fr S S' L) {id : Nat} (hid : id ∈ L ∨ S.n ≤ id) (o : TObj) : Fr S (S'.set id o) L :=
  ⟨h.n, fun j hj hl => by rw [TS.set_objs, if_neg (fun e => by subst e; rcases hid with h | h; exact hl h; omega)]; exact h.o j hj hl⟩
theorem Fr.trans {S S1 S2 : TS} {L L' : List Nat} (h : Fr S S1 L) (k : Fr S1 S2 L') (hl : ∀ x ∈ L', x ∈ L ∨ S.n ≤ x) : Fr S S2 L :=
  ⟨Nat.le_trans h.n k.n, fun id hi hx => (k.o id (Nat.lt_of_lt_of_le hi h.n) fun hm => by rcases hl id hm with h | h; exact hx h; omega).trans (h.o id hi hx)⟩
theorem Fr.keep {S S' : TS} (h : Fr S S' []) : Keep S S' := ⟨h.n, fun id hi => h.o id hi (by simp)⟩
theorem Fr.of {S S' : TS} (h : Keep S S') (L : List Nat) : Fr S S' L := ⟨h.1, fun id hi _ => h.2 id hi⟩
section
variable {E : Env} {N : Nat} {Q : Exit → (Nat → TV) → TS → Prop} {T : Nat → TV} {S : TS}
theorem loW.asRow (i : Nat) {s : Nat} (s' : Nat) {xs : List D} {c : Code} {p : Pin c} (h : T i = .sl .full s xs) (hs : xs = [] ∨ s' = s) (hw : loW E N c p Q (upd T i (.sl (.own S.n) s' xs)) (S.push .lin)) : loW E N c p Q T S := TWp.asRow i s' h hs hw
theorem loW.asBuf (i e : Nat) {s : Nat} (s' : Nat) {c : Code} {p : Pin c} (h : T i = .sl .full s []) (hw : loW E N c p Q (upd T i (.vs S.n 0 s' 0)) (S.push (.cells e []))) : loW E N c p Q T S := TWp.asBuf i e s' h hw
/-- An object's cells read in another way. -/
theorem Rel.reread {w0 : World} {c : Cx} {w : World} (h : Rel w0 c S w) {id e : Nat} {cs cs' : List TV} (hobj : S.objs id = .cells e cs) (hl : cs'.length = cs.length)
    (hr : ∀ (j : Nat) x x' v, cs[j]? = some x → cs'[j]? = some x' → RdT c w x v → RdT c w x' v) : Rel w0 c (S.set id (.cells e cs')) w := by
  refine ⟨h.below, h.dom, fun i hi => ?_, fun i j b e1 e2 hi hj li lj gi gj => ?_, h.cell, fun i hi => ?_, h.cn⟩
  · rw [TS.set_objs]
    split
    · rename_i hii
      subst hii
      have ho := h.obj i hi
      rw [hobj] at ho
      refine ⟨fun hn => List.eq_nil_of_length_eq_zero (by rw [hl, ho.1 hn]; rfl), fun b z hz => ?_⟩
      obtain ⟨g2, ⟨arr, fr, g3, gz, gl⟩, gf, g4, g5⟩ := ho.2 b z hz
      refine ⟨g2, ⟨arr, fr, g3, gz, by rw [hl]; exact gl⟩, gf, fun j x' hx' => ?_, g5⟩
      have hj : j < cs.length := by rw [← hl]; exact (List.getElem?_eq_some_iff.1 hx').1
      obtain ⟨v, k1, k3⟩ := g4 j _ (List.getElem?_eq_getElem hj)
      exact ⟨v, k1, hr j _ _ v (List.getElem?_eq_getElem hj) hx' k3⟩
    · exact h.obj i hi
  · have key : ∀ k, ((S.set id (.cells e cs')).objs k).live = true → (S.objs k).live = true := by
      intro k hk
      rw [TS.set_objs] at hk
      split at hk
      · rename_i hki; rw [hki, hobj]; rfl
      · exact hk
    exact h.inj i j b e1 e2 hi hj (key i li) (key j lj) gi gj
  · rw [TS.set_objs, if_neg]
    · exact h.wf i hi
    · intro he
      subst he
      have := h.wf i hi
      rw [hobj] at this; cases this
/-- An empty slice in an object's cell: a row that may be written. -/
theorem Rel.bufCell {w0 : World} {c : Cx} {w : World} (h : Rel w0 c S w) {id e s : Nat} {cs : List TV} (e2 s' j : Nat) (hobj : S.objs id = .cells e cs) (hj : cs[j]? = some (.sl .full s [])) :
    ∃ c', Rel w0 c' ((S.push (.cells e2 [])).set id (.cells e (cs.set j (.vs S.n 0 s' 0)))) w ∧ Mono c w c' w := by
  obtain ⟨c', h1, h2, h3, h4⟩ := h.virtual' (.cells e2 []) (.inr ⟨e2, rfl⟩)
  have hid : id < S.n := h.live_lt (by rw [hobj]; rfl)
  refine ⟨c', h1.reread (by rw [TS.push_objs, if_neg (by omega)]; exact hobj) (by simp) fun q x x' v hx hx' hv => ?_, h2⟩
  rw [List.getElem?_set] at hx'
  split at hx'
  · rename_i hjq
    subst hjq
    rw [hj] at hx
    cases hx
    split at hx'
    · cases hx'
      cases hv with
      | sl _ _ _ _ q1 q2 =>
        have hlt : S.n < c'.n := by omega
        cases q1 with
        | nil _ a cap => obtain rfl : cap = 0 := q2; exact .vsN _ _ _ _ hlt
        | sl _ _ b o n cap hn hc hm _ =>
          have hn : 0 = n := hn
          subst hn
          obtain rfl : cap = 0 := q2
          exact .vsN _ _ _ _ hlt
    · cases hx'
  · rw [hx] at hx'; cases hx'; exact hv
/-- .. or an own row that may be appended to. -/
theorem Rel.rowCell {w0 : World} {c : Cx} {w : World} (h : Rel w0 c S w) {id e s : Nat} {cs : List TV} (s' j : Nat) (hobj : S.objs id = .cells e cs) (hj : cs[j]? = some (.sl .full s [])) :
    ∃ c', Rel w0 c' ((S.push .lin).set id (.cells e (cs.set j (.sl (.own S.n) s' [])))) w ∧ Mono c w c' w := by
  obtain ⟨c', h1, h2, h3⟩ := h.virtual
  have hid : id < S.n := h.live_lt (by rw [hobj]; rfl)
  refine ⟨c', h1.reread (by rw [TS.push_objs, if_neg (by omega)]; exact hobj) (by simp) fun q x x' v hx hx' hv => ?_, h2⟩
  rw [List.getElem?_set] at hx'
  split at hx'
  · rename_i hjq
    subst hjq
    rw [hj] at hx
    cases hx
    split at hx'
    · cases hx'
      cases hv with
      | sl _ _ _ _ q1 q2 =>
        have hlt : S.n < c'.n := by rw [h1.cn, TS.push_n]; omega
        refine .sl _ _ _ _ (q1.nil_any s') ?_
        cases v with
        | slice a n cap => exact ⟨hlt, .inl q2⟩
        | _ => exact q2
    · cases hx'
  · rw [hx] at hx'; cases hx'; exact hv
theorem loW.ghost {S' : TS} {c : Code} {p : Pin c} (h : ∀ w0 c w, Ok E w0 c S w → ∃ c', Rel w0 c' S' w ∧ Mono c w c' w) (hw : loW E N c p Q T S') : loW E N c p Q T S :=
  TWp.ghost (fun w0 c w hk => let ⟨c', h1, h2⟩ := h w0 c w hk; ⟨c', h1, h2, fun _ _ hv => hv.step h2⟩) hw
theorem TCall.ghost {f : FuncId} {args : List TV} {S' : TS} {R : TV → TS → Prop} (h : ∀ w0 c w, Ok E w0 c S w → ∃ c', Rel w0 c' S' w ∧ Mono c w c' w) (hw : TCall E f args S' R) : TCall E f args S R := by
  intro w0 c w vs hk hv
  obtain ⟨c', h1, h2⟩ := h w0 c w hk
  exact (hw w0 c' w vs (hk.step h1 h2) ⟨hv.size, fun j t v a b => (hv.rd j t v a b).step h2⟩).mono fun v w' ⟨t, c2, S2, g1, g2, g3, g4⟩ => ⟨t, c2, S2, g1, h2.trans g2, g3, g4⟩
/-- A call's own row, or nothing: a row. -/
theorem TCall.rowE {f : FuncId} {args : List TV} {S : TS} {s : Nat} {xs : List D} (h : TCall E f args S fun t S' => ((∃ k, t = .sl (.own k) s xs ∧ S.n ≤ k ∧ S'.objs k = .lin) ∨ (xs = [] ∧ ∃ s0, t = .sl .full s0 [])) ∧ Keep S S') : TCall E f args S fun t S' => t = .sl (.own S.n) s xs ∧ S' = S.push .lin := by
  intro w0 c w vs hk hv
  refine (h w0 c w vs hk hv).mono ?_
  rintro v w' ⟨t, c1, S1, h1, h2, h3, h4, h5⟩
  rcases h4 with ⟨k, rfl, hk2, ho⟩ | ⟨rfl, s0, rfl⟩
  · obtain ⟨g1, g2⟩ := hk.forget h1 h2 (.row hk.rel.wf h5 hk2 ho)
    exact ⟨_, _, _, g1, g2, (Ren.sl 0 k s xs rfl).ok (newCx_ok _ _ _) h3, rfl, rfl⟩
  · obtain ⟨g1, g2⟩ := hk.forget h1 h2 (.none hk.rel.wf h5)
    obtain ⟨c', r1, r2, r3⟩ := g1.rel.virtual
    refine ⟨_, c', _, g1.step r1 r2, g2.trans r2, ?_, rfl, rfl⟩
    have h6 := (Ren.sl0 (n := S.n) (L := []) .full s0 [] (.inr (.inl rfl))).ok (newCx_ok _ _ _) h3
    cases h6 with
    | sl _ _ _ _ q1 q2 =>
      refine .sl _ _ _ _ ((q1.nil_any s).step r2) ?_
      cases v with
      | slice a n cap => exact ⟨by rw [r1.cn, TS.push_n]; omega, .inl q2⟩
      | _ => exact q2
end
attribute [go_sem ↓] W_skip W_label W_exit W_ret W_seq W_cond W_block W_draw W_region W_loop seqK_n seqK_r seqK_e blkK_n blkK_r blkK_e nrmK_app loopK_n loopK_r loopK_e finK_n finK_r resT_nil resT_tmp resT_cell endK_0 endK_1 endK_2 idQ
attribute [go_sem] cdK_t cdK_f and_side dec_t dec_f
end Go.Proofs.YtiijiejncefpmaaDoor.TL
namespace Go.Proofs.YtiijiejncefpmaaDoor
open Go.RowKit TL

structure Wr (S : TS) (w k : Nat) (xs : Bs) : Prop where
  o : S.objs w = .cells 68 [.sl (.own k) 1 (dB xs)]
  r : S.objs k = .lin
  lw : w < S.n
  lk : k < S.n
  ne : w ≠ k
theorem Wr.fr {S S' : TS} {w k : Nat} {xs : Bs} {L : List Nat} (h : Wr S w k xs) (f : Fr S S' L) (hw : w ∉ L := by simp) (hk : k ∉ L := by simp) : Wr S' w k xs :=
  ⟨(f.o w h.lw hw).trans h.o, (f.o k h.lk hk).trans h.r, Nat.lt_of_lt_of_le h.lw f.n, Nat.lt_of_lt_of_le h.lk f.n, h.ne⟩
theorem Wr.push {S : TS} {w k : Nat} {xs : Bs} (h : Wr S w k xs) (o : TObj) : Wr (S.push o) w k xs := h.fr ((Fr.refl S []).push o)
/-- The writer's bytes behind a step; what else is there is as it was. -/
structure WrTo (S S' : TS) (w k k' : Nat) (xs : Bs) : Prop where
  wr : Wr S' w k' xs
  fr : Fr S S' [w, k]
  nk : k' = k ∨ S.n ≤ k'
theorem WrTo.refl {S : TS} {w k : Nat} {xs : Bs} (h : Wr S w k xs) : WrTo S S w k k xs := ⟨h, .refl _ _, .inl rfl⟩
theorem WrTo.push {S S' : TS} {w k k' : Nat} {xs : Bs} (h : WrTo S S' w k k' xs) (o : TObj) : WrTo S (S'.push o) w k k' xs := ⟨h.wr.push o, h.fr.push o, h.nk⟩
theorem WrTo.trans {S S1 S2 : TS} {w k k1 k2 : Nat} {xs ys : Bs} (h : WrTo S S1 w k k1 xs) (g : WrTo S1 S2 w k1 k2 ys) : WrTo S S2 w k k2 ys := by
  have h1 := h.nk; have h2 := g.nk; have h3 := h.fr.n
  refine ⟨g.wr, h.fr.trans g.fr fun x hx => ?_, by omega⟩
  simp at hx ⊢
  omega

/-- A number's two bytes. -/
def num2 (n : Nat) : Bs := [BitVec.ofNat 8 (n >>> 8), BitVec.ofNat 8 n]
theorem num2_len (n : Nat) : (num2 n).length = 2 := rfl
def text2 (s : Bs) : Bs := num2 s.length ++ s
theorem text2_len (s : Bs) : (text2 s).length = 2 + s.length := by simp [text2, num2_len]
def texts2 (l : List Bs) : Bs := BitVec.ofNat 8 l.length :: l.flatMap text2
theorem take_succ_D {α : Type} (l : List α) {i : Nat} (d : α) (h : i < l.length) : l.take (i + 1) = l.take i ++ [l.getD i d] := by
  rw [List.take_add_one, List.getD_eq_getElem?_getD, List.getElem?_eq_getElem h]; rfl
theorem getD_mem {α : Type} {l : List α} {i : Nat} {d : α} (h : i < l.length) : l.getD i d ∈ l := by
  rw [List.getD_eq_getElem?_getD, List.getElem?_eq_getElem h]; exact List.getElem_mem h
theorem texts2_len (l : List Bs) : (texts2 l).length = 1 + (l.flatMap text2).length := by simp [texts2, Nat.add_comm]
theorem texts2_ge (l : List Bs) : l.length ≤ (texts2 l).length := by
  rw [texts2_len]
  induction l with
  | nil => simp
  | cons y l ih => rw [List.flatMap_cons, List.length_append, text2_len, List.length_cons]; omega
theorem text_in {l : List Bs} {x : Bs} (h : x ∈ l) : x.length + 3 ≤ (texts2 l).length := by
  rw [texts2_len]
  induction l with
  | nil => cases h
  | cons y l ih =>
    rw [List.flatMap_cons, List.length_append, text2_len]
    rcases List.mem_cons.1 h with rfl | h
    · omega
    · have := ih h; omega
theorem take_texts (l : List Bs) (i : Nat) : ((l.take i).flatMap text2).length + 1 ≤ (texts2 l).length := by
  rw [texts2_len]
  induction l generalizing i with
  | nil => simp
  | cons y l ih =>
    cases i with
    | zero => simp
    | succ i => have := ih i; simp only [List.take_succ_cons, List.flatMap_cons, List.length_append] at *; omega
end Go.Proofs.YtiijiejncefpmaaDoor
namespace Go.Proofs.YtiijiejncefpmaaDoor
open Go.RowKit TL

/-! ### plain law -/
theorem bitsN_add (p : Bs) (i a : Nat) : ∀ b, bitsN p i (a + b) = bitsN p i a * 2 ^ b + bitsN p (i + a) b
  | 0 => by simp [bitsN]
  | b + 1 => by
    rw [← Nat.add_assoc, bitsN, bitsN_add p i a b, bitsN, Nat.pow_succ, ← Nat.add_assoc]
    have : bitsN p i a * (2 ^ b * 2) = 2 * (bitsN p i a * 2 ^ b) := by rw [← Nat.mul_assoc, Nat.mul_comm]
    omega
theorem bitsN_byte (p : Bs) (i : Nat) (h : i < p.length) : bitsN p (8 * i) 8 = (p.getD i 0#8).toNat := by
  have e : ∀ k, k < 8 → bitN p (8 * i + k) = (p.getD i 0#8).toNat / 2 ^ (7 - k) % 2 := by
    intro k hk
    unfold bitN
    rw [show (8 * i + k) / 8 = i by omega, show (8 * i + k) % 8 = k by omega, if_pos h, BitVec.toNat_ushiftRight, Nat.shiftRight_eq_div_pow]
  have e0 := e 0 (by omega)
  rw [Nat.add_zero] at e0
  simp only [bitsN, Nat.add_zero, e0, e 1 (by omega), e 2 (by omega), e 3 (by omega), e 4 (by omega), e 5 (by omega), e 6 (by omega), e 7 (by omega)]
  have := (p.getD i 0#8).isLt
  generalize (p.getD i 0#8).toNat = v at *
  simp only [Nat.reducePow, Nat.reduceSub]
  omega
theorem bitsN_end (p : Bs) (i : Nat) (h : 8 * p.length ≤ i) : ∀ k, bitsN p i k = 0
  | 0 => rfl
  | k + 1 => by rw [bitsN, bitsN_end p i h k, bitN, if_neg (by omega)]
theorem accT (p : Bs) (B : BitVec 64) (i j n : Nat) (h : B.toNat % 2 ^ n = bitsN p (5 * j) n) (hn : 5 * j + n = 8 * i) (hi : i < p.length) (h5 : n ≤ 5) :
    (B <<< 8 ||| BitVec.setWidth 64 (p.getD i 0#8)).toNat % 2 ^ (n + 8) = bitsN p (5 * j) (n + 8) := by
  rw [← BitVec.ofNat_toNat]
  rw [bitsN_add, hn, bitsN_byte p i hi, ← h, BitVec.toNat_or, BitVec.toNat_shiftLeft, BitVec.toNat_ofNat]
  have hb := (p.getD i 0#8).isLt
  generalize (p.getD i 0#8).toNat = v at *
  rw [Nat.mod_eq_of_lt (a := v) (by omega), Nat.shiftLeft_eq]
  have hd : B.toNat * 2 ^ 8 % 2 ^ 64 = 2 ^ 8 * (B.toNat % 2 ^ 56) := by omega
  rw [hd, ← Nat.two_pow_add_eq_or_of_lt (i := 8) (by omega)]
  have hp : 2 ^ (n + 8) = 2 ^ 8 * 2 ^ n := by rw [Nat.add_comm, Nat.pow_add]
  have hn2 : (B.toNat % 2 ^ 56) % 2 ^ n = B.toNat % 2 ^ n := Nat.mod_mod_of_dvd _ (Nat.pow_dvd_pow 2 (by omega))
  rw [hp, Nat.mod_mul, Nat.mul_add_mod, Nat.mod_eq_of_lt (a := v) (by omega), Nat.mul_add_div (by decide), Nat.div_eq_of_lt (a := v) (by omega), Nat.add_zero, hn2]
  omega
theorem split_pow {r q b l M : Nat} (h : r + M * q = b * M + l) (hr : r < M) (hl : l < M) : q = b ∧ r = l := by
  have h1 : (r + M * q) / M = q := by rw [Nat.add_mul_div_left _ _ (by omega), Nat.div_eq_of_lt hr, Nat.zero_add]
  have h2 : (b * M + l) / M = b := by rw [Nat.mul_comm, Nat.mul_add_div (by omega), Nat.div_eq_of_lt hl, Nat.add_zero]
  have h3 : q = b := by rw [← h1, h, h2]
  subst h3
  rw [Nat.mul_comm q M] at h
  omega
theorem topT (p : Bs) (B : BitVec 64) (j n : Nat) (h : B.toNat % 2 ^ n = bitsN p (5 * j) n) (h5 : 5 ≤ n) (hn : n < 64) :
    (B >>> (n - 5) &&& 31#64).toNat = bitsN p (5 * j) 5 ∧ B.toNat % 2 ^ (n - 5) = bitsN p (5 * (j + 1)) (n - 5) := by
  obtain ⟨m, rfl⟩ : ∃ m, n = 5 + m := ⟨n - 5, by omega⟩
  rw [Nat.add_sub_cancel_left]
  rw [bitsN_add] at h
  have hl := bitsN_lt p (5 * j + 5) m
  have e : B.toNat % 2 ^ (5 + m) = B.toNat % 2 ^ m + 2 ^ m * (B.toNat / 2 ^ m % 2 ^ 5) := by rw [Nat.add_comm 5 m, Nat.pow_add, Nat.mod_mul]
  rw [e] at h
  obtain ⟨h1, h2⟩ := split_pow h (Nat.mod_lt _ (Nat.two_pow_pos m)) hl
  refine ⟨?_, h2⟩
  rw [BitVec.toNat_and, BitVec.toNat_ushiftRight, Nat.shiftRight_eq_div_pow]
  exact (Nat.and_two_pow_sub_one_eq_mod _ 5).trans h1
theorem lastT (p : Bs) (B : BitVec 64) (j n : Nat) (h : B.toNat % 2 ^ n = bitsN p (5 * j) n) (hn : 5 * j + n = 8 * p.length) (h5 : n < 5) :
    (B <<< (5 - n) &&& 31#64).toNat = bitsN p (5 * j) 5 := by
  have e : bitsN p (5 * j) 5 = bitsN p (5 * j) n * 2 ^ (5 - n) := by
    have := bitsN_add p (5 * j) n (5 - n)
    rw [show n + (5 - n) = 5 by omega, bitsN_end p (5 * j + n) (by omega) (5 - n)] at this
    exact this
  rw [e, ← h, BitVec.toNat_and, BitVec.toNat_shiftLeft, Nat.shiftLeft_eq]
  refine (Nat.and_two_pow_sub_one_eq_mod _ 5).trans ?_
  have : n = 0 ∨ n = 1 ∨ n = 2 ∨ n = 3 ∨ n = 4 := by omega
  rcases this with rfl | rfl | rfl | rfl | rfl <;> simp only [Nat.reducePow, Nat.reduceSub] <;> omega

/-! ### the walk -/
theorem set_self (S : TS) (b : Nat) : S.set b (S.objs b) = S := by
  unfold TS.set
  congr 1
  funext i
  split <;> simp_all
structure Bd (S : TS) (b k : Nat) (xs : Bs) : Prop where
  o : (S.objs b = .cells 103 [.lit (.pointer none), .vs k 0 1 xs.length]) ∨ (S.objs b = .cells 103 [.ptr b 0, .vs k 0 1 xs.length])
  r : S.objs k = .cells 5 (cellsD (dB xs))
  lb : b < S.n
  lk : k < S.n
  ne : b ≠ k
set_option maxRecDepth 8000 in
set_option maxHeartbeats 1000000 in
theorem c_Builder_copyCheck {S : TS} {b k : Nat} {xs : Bs} {K : TV → TS → Prop} (hB : Bd S b k xs) (hK : K (.tup []) (S.set b (.cells 103 [.ptr b 0, .vs k 0 1 xs.length]))) :
    TCall env 88 [.ptr b 0] S K := by
  have hlb := hB.lb
  refine TCall.w 20 [] Tryd.func88 rfl rfl rfl rfl (by kernel_rfl) rfl ?_
  rcases hB.o with ho | ho
  · simp -implicitDefEqProofs (disch := omega) only [seval, go_sem, ho]
    refine c_abi_NoEscape ?_
    simp -implicitDefEqProofs (disch := omega) only [seval, go_sem, ho]
    exact ⟨by kernel_rfl, hK⟩
  · simp -implicitDefEqProofs (disch := omega) only [seval, go_sem, ho]
    have : S.set b (.cells 103 [.ptr b 0, .vs k 0 1 xs.length]) = S := by rw [← ho]; exact set_self S b
    rw [this] at hK
    exact hK
/-- The builder's bytes behind a step. -/
structure BdTo (S S' : TS) (b k k' : Nat) (xs : Bs) : Prop where
  bd : Bd S' b k' xs
  fr : Fr S S' [b, k]
  nk : k' = k ∨ S.n ≤ k'
theorem BdTo.refl {S : TS} {w k : Nat} {xs : Bs} (h : Bd S w k xs) : BdTo S S w k k xs := ⟨h, .refl _ _, .inl rfl⟩
theorem BdTo.trans {S S1 S2 : TS} {w k k1 k2 : Nat} {xs ys : Bs} (h : BdTo S S1 w k k1 xs) (g : BdTo S1 S2 w k1 k2 ys) : BdTo S S2 w k k2 ys := by
  have h1 := h.nk; have h2 := g.nk; have h3 := h.fr.n
  refine ⟨g.bd, h.fr.trans g.fr fun x hx => ?_, by omega⟩
  simp at hx ⊢
  omega
set_option maxRecDepth 8000 in
set_option maxHeartbeats 1000000 in
theorem c_Builder_WriteByte {S : TS} {b k : Nat} {xs : Bs} {x : BitVec 8} {K : TV → TS → Prop} (hB : Bd S b k xs) (hK : ∀ S' k', BdTo S S' b k k' (xs ++ [x]) → K (.lit .nilIface) S') (hl : xs.length ≤ 1000000 := by omega) :
    TCall env 74 [.ptr b 0, .lit (w8 x)] S K := by
  have ⟨ho, hr, hlb, hlk, hne⟩ := hB
  refine TCall.w 17 [.tmp 4] Tryd.func74 rfl rfl rfl rfl (by kernel_rfl) rfl ?_
  simp -implicitDefEqProofs (disch := omega) only [seval, go_sem]
  refine c_Builder_copyCheck hB ?_
  simp -implicitDefEqProofs (disch := omega) only [seval, go_sem, hr]
  refine hK _ S.n ⟨⟨.inr ?_, ?_, ?_, ?_, ?_⟩, (((Fr.refl S _).set (by simp) _).set (by simp) _).set (by simp) _ |>.push _, .inr (Nat.le_refl _)⟩
  · simp -implicitDefEqProofs (disch := omega) only [seval, go_sem]
  · simp -implicitDefEqProofs (disch := omega) only [seval, go_sem]
    rw [dB_one]; exact congrArg _ (cB_app _ _)
  · simp -implicitDefEqProofs (disch := omega) only [seval, go_sem] <;> omega
  · simp -implicitDefEqProofs (disch := omega) only [seval, go_sem] <;> omega
  · omega
theorem cB_u8 (xs : Bs) : cellsD (dB xs) = (xs.map UInt8.ofBitVec).map fun b : UInt8 => TV.lit (.int .u8 b.toNat) := by
  induction xs with
  | nil => rfl
  | cons x xs ih => rw [List.map_cons, List.map_cons, ← ih]; rfl
set_option maxRecDepth 8000 in
set_option maxHeartbeats 1000000 in
theorem c_Builder_String {S : TS} {b k : Nat} {xs : Bs} {K : TV → TS → Prop} (hB : Bd S b k xs) (hK : K (.lit (.string (st xs))) (S.set k .gone)) (h0 : 0 < xs.length := by omega) (hl : xs.length ≤ 1000000 := by omega) :
    TCall env 75 [.ptr b 0] S K := by
  have ⟨ho, hr, hlb, hlk, hne⟩ := hB
  refine TCall.w 14 [.tmp 2] Tryd.func75 rfl rfl rfl rfl (by kernel_rfl) rfl ?_
  rcases ho with ho | ho
  all_goals
    simp -implicitDefEqProofs (disch := omega) only [seval, go_sem, ho, hr]
    refine drW_at [(0,0),(1,0),(2,0),(3,0),(4,0),(5,0),(6,0),(7,0),(8,0),(9,0),(10,2),(11,0)] followsN (by kernel_rfl) ?_
    simp -implicitDefEqProofs (disch := omega) only [seval, go_sem, ho, hr]
    exact ⟨xs.map UInt8.ofBitVec, by kernel_rfl, cB_u8 xs, by simp, by cases xs <;> simp_all, by simp; omega, by rw [List.map_map, show UInt8.toBitVec ∘ UInt8.ofBitVec = id from rfl, List.map_id]; exact hK⟩
set_option maxRecDepth 8000 in
set_option maxHeartbeats 1000000 in
theorem c_base_Text {S : TS} {g : Tag} {p : Bs} {K : TV → TS → Prop} (hK : K (.lit (.string (st (txtS p)))) S) (h0 : 0 < p.length := by omega) (hp : p.length ≤ 100000 := by omega) :
    TCall env 49 [.sl g 1 (dB p)] S K := by
  refine (TCall.pure (r := .lit (.string (st (txtS p)))) ?_ (.lit _)).mono fun t S' ⟨h1, h2⟩ => by rw [h1, h2]; exact hK
  refine TCall.w 42 [.tmp 2] Tryd.func49 rfl rfl rfl rfl (by kernel_rfl) rfl ?_
  simp -implicitDefEqProofs (disch := omega) only [seval, go_sem]
  refine loW.ghost (S' := (((S.push (.cells 103 [.lit (.pointer none), .sl .full 0 []])).push (.cells 5 [])).set S.n (.cells 103 [.lit (.pointer none), .vs (S.n + 1) 0 1 0]))) (fun w0 c w hk => hk.rel.bufCell 5 1 1 (push_self _ _) rfl) ?_
  refine loW_inv (fun n T S' => ∃ (i j m : Nat) (B : BitVec 64) (k : Nat), n + i = p.length ∧ T 3 = .ptr S.n 0 ∧ T 4 = .lit (w64 B) ∧ T 5 = .lit (.int .i64 (m : Int)) ∧ T 8 = .sl g 1 (dB p) ∧ T 9 = .lit (.int .i64 (p.length : Int)) ∧ T 10 = .lit (.int .i64 (i : Int)) ∧
    m < 5 ∧ 5 * j + m = 8 * i ∧ B.toNat % 2 ^ m = bitsN p (5 * j) m ∧ Bd S' S.n k (txtN p j) ∧ S.n ≤ k ∧ Fr S S' []) p.length ?_ ?_
  · refine ⟨0, 0, 0, 0#64, S.n + 1, rfl, rfl, rfl, rfl, rfl, rfl, rfl, by omega, rfl, rfl, ⟨.inl ?_, ?_, ?_, ?_, by omega⟩, by omega, (((Fr.refl S _).push _).push _).set (.inr (Nat.le_refl _)) _⟩
    · simp -implicitDefEqProofs (disch := omega) only [seval, go_sem]; rfl
    · simp -implicitDefEqProofs (disch := omega) only [seval, go_sem]; rfl
    · simp -implicitDefEqProofs (disch := omega) only [seval, go_sem] <;> omega
    · simp -implicitDefEqProofs (disch := omega) only [seval, go_sem] <;> omega
  rintro n T S1 ⟨i, j, m, B, k, hi, h3, h4, h5, h8, h9, h10, hm, hjm, hB, hbd, hk, hfr⟩
  simp -implicitDefEqProofs (disch := omega) only [seval, go_sem, h3, h4, h5, h8, h9, h10]
  refine cdK_d (fun hb => ?_) (fun hb => ?_)
  · have hlt : i < p.length := by omega
    simp -implicitDefEqProofs (disch := omega) only [seval, go_sem, h3, h4, h5, h8, h9, h10]
    have hacc := accT p B i j m hB hjm hlt (by omega)
    generalize (B <<< 8 ||| BitVec.setWidth 64 (p.getD i 0#8)) = B2 at hacc ⊢
    refine loW_inv (fun n T S' => ∃ (j k : Nat), T 3 = .ptr S.n 0 ∧ T 4 = .lit (w64 B2) ∧ T 5 = .lit (.int .i64 (n : Int)) ∧ T 8 = .sl g 1 (dB p) ∧ T 9 = .lit (.int .i64 (p.length : Int)) ∧ T 10 = .lit (.int .i64 (i : Int)) ∧
      n < 13 ∧ 5 * j + n = 8 * (i + 1) ∧ B2.toNat % 2 ^ n = bitsN p (5 * j) n ∧ Bd S' S.n k (txtN p j) ∧ S.n ≤ k ∧ Fr S S' []) (m + 8) ?_ ?_
    · exact ⟨j, k, h3, rfl, rfl, h8, h9, h10, by omega, by omega, hacc, hbd, hk, hfr⟩
    rintro m2 T S2 ⟨j, k, h3, h4, h5, h8, h9, h10, hm, hjm, hB, hbd, hk, hfr⟩
    simp -implicitDefEqProofs (disch := omega) only [seval, go_sem, h3, h4, h5, h8, h9, h10]
    refine cdK_d (fun hc => ?_) (fun hc => ?_)
    · have ⟨hl, hr⟩ := topT p B2 j m2 hB (by omega) (by omega)
      have hcs : (m2 : Int) - 5 = ((m2 - 5 : Nat) : Int) := by omega
      simp -implicitDefEqProofs (disch := omega) only [seval, go_sem, h3, h4, h5, h8, h9, h10, hcs]
      rw [hl]
      have h32 := bitsN_lt p (5 * j) 5
      refine ⟨by omega, c_Builder_WriteByte hbd (fun S3 k3 hto => ?_) (by rw [txtN_len]; omega)⟩
      simp -implicitDefEqProofs (disch := omega) only [seval, go_sem, h3, h4, h5, h8, h9, h10]
      have hbd' : Bd S3 S.n k3 (txtN p (j + 1)) := hto.bd
      exact ⟨m2 - 5, by omega, j + 1, k3, h3, h4, rfl, h8, h9, h10, by omega, by omega, hr, hbd', by have := hto.nk; have := hfr.n; omega, hfr.trans hto.fr (by simp; omega)⟩
    · simp -implicitDefEqProofs (disch := omega) only [seval, go_sem, h3, h4, h5, h8, h9, h10]
      exact ⟨n - 1, by omega, i + 1, j, m2, B2, k, by omega, h3, h4, h5, h8, h9, rfl, by omega, by omega, hB, hbd, hk, hfr⟩
  · have hn : i = p.length := by omega
    have hll := txtN_len p j
    simp -implicitDefEqProofs (disch := omega) only [seval, go_sem, h3, h4, h5, h8, h9, h10]
    refine cdK_d (fun hc => ?_) (fun hc => ?_)
    · have hl := lastT p B j m hB (by omega) (by omega)
      have hcs : (5 : Int) - (m : Int) = ((5 - m : Nat) : Int) := by omega
      simp -implicitDefEqProofs (disch := omega) only [seval, go_sem, h3, h4, h5, h8, h9, h10, hcs]
      rw [hl]
      have h32 := bitsN_lt p (5 * j) 5
      refine ⟨by omega, c_Builder_WriteByte hbd (fun S3 k3 hto => ?_) (by rw [txtN_len]; omega)⟩
      simp -implicitDefEqProofs (disch := omega) only [seval, go_sem, h3]
      refine c_Builder_String hto.bd ?_ (by simp) (by simp; omega)
      simp -implicitDefEqProofs (disch := omega) only [seval, go_sem]
      refine ⟨?_, ?_⟩
      · show TV.lit _ = _
        rw [txtS, show (8 * p.length + 4) / 5 = j + 1 by omega]; rfl
      · have h2 := hto.nk
        have h4 := hfr.n
        exact ((hfr.trans hto.fr (by simp; omega)).set (.inr (by omega)) _).keep
    · simp -implicitDefEqProofs (disch := omega) only [seval, go_sem, h3]
      refine c_Builder_String hbd ?_ (by omega) (by omega)
      simp -implicitDefEqProofs (disch := omega) only [seval, go_sem]
      refine ⟨?_, (hfr.set (.inr hk) _).keep⟩
      show TV.lit _ = _
      rw [txtS, show (8 * p.length + 4) / 5 = j by omega]
end Go.Proofs.YtiijiejncefpmaaDoor
namespace Go.Proofs.YtiijiejncefpmaaDoor
open Go.RowKit TL

theorem accB_add (bl : List Int) (o a : Nat) : ∀ b, accB bl o (a + b) = accB bl o a * 2 ^ b + accB bl (o + a) b
  | 0 => by simp [accB]
  | b + 1 => by
    rw [← Nat.add_assoc, accB, accB_add bl o a b, accB, Int.pow_succ, ← Nat.add_assoc]
    have : accB bl o a * (2 ^ b * 2) = 2 * (accB bl o a * 2 ^ b) := by rw [← Int.mul_assoc, Int.mul_comm]
    omega
theorem accB_nn {bl : List Int} (h : ∀ x ∈ bl, 0 ≤ x ∧ x ≤ 1) (o : Nat) : ∀ k, 0 ≤ accB bl o k ∧ accB bl o k < ((2 ^ k : Nat) : Int)
  | 0 => by simp [accB]
  | k + 1 => by
    have h1 := accB_nn h o k; have h2 := getD_bit h (o + k)
    rw [Nat.pow_succ]
    simp only [accB]; omega
def accN (bl : List Int) (o k : Nat) : Nat := (accB bl o k).toNat
theorem accN_lt {bl : List Int} (h : ∀ x ∈ bl, 0 ≤ x ∧ x ≤ 1) (o k : Nat) : accN bl o k < 2 ^ k := by have := accB_nn h o k; unfold accN; omega
theorem accN_add {bl : List Int} (h : ∀ x ∈ bl, 0 ≤ x ∧ x ≤ 1) (o a b : Nat) : accN bl o (a + b) = accN bl o a * 2 ^ b + accN bl (o + a) b := by
  have h1 := accB_nn h o (a + b); have h2 := accB_nn h o a; have h3 := accB_nn h (o + a) b
  have h4 := accB_add bl o a b
  unfold accN
  obtain ⟨x, hx⟩ := Int.eq_ofNat_of_zero_le h2.1
  obtain ⟨y, hy⟩ := Int.eq_ofNat_of_zero_le h3.1
  rw [h4, hx, hy]
  have : ((x : Int) * 2 ^ b + (y : Int)) = ((x * 2 ^ b + y : Nat) : Int) := by push_cast; rfl
  rw [this]; rfl
theorem shlOr (B : BitVec 64) (c v n : Nat) (hv : v < 2 ^ c) (hn : n + c ≤ 64) : (B <<< c ||| BitVec.ofNat 64 v).toNat % 2 ^ (n + c) = (B.toNat % 2 ^ n) * 2 ^ c + v := by
  have hp : 2 ^ 64 = 2 ^ (64 - c) * 2 ^ c := by rw [← Nat.pow_add]; congr 1; omega
  have hv64 : v < 2 ^ 64 := Nat.lt_of_lt_of_le hv (Nat.pow_le_pow_right (by omega) (by omega))
  rw [BitVec.toNat_or, BitVec.toNat_shiftLeft, BitVec.toNat_ofNat, Nat.mod_eq_of_lt hv64, Nat.shiftLeft_eq, hp, Nat.mul_mod_mul_right, Nat.mul_comm _ (2 ^ c), ← Nat.two_pow_add_eq_or_of_lt hv, Nat.add_comm n c, Nat.pow_add, Nat.mod_mul, Nat.mul_add_mod, Nat.mod_eq_of_lt hv, Nat.mul_add_div (Nat.two_pow_pos c), Nat.div_eq_of_lt hv, Nat.add_zero, Nat.mod_mod_of_dvd _ (Nat.pow_dvd_pow 2 (by omega)), Nat.mul_comm, Nat.add_comm]
theorem topBits (B : BitVec 64) {c m q l : Nat} (h : B.toNat % 2 ^ (c + m) = q * 2 ^ m + l) (hl : l < 2 ^ m) : (B >>> m).toNat % 2 ^ c = q ∧ B.toNat % 2 ^ m = l := by
  have e : B.toNat % 2 ^ (c + m) = B.toNat % 2 ^ m + 2 ^ m * (B.toNat / 2 ^ m % 2 ^ c) := by rw [Nat.add_comm c m, Nat.pow_add, Nat.mod_mul]
  rw [e] at h
  obtain ⟨h1, h2⟩ := split_pow h (Nat.mod_lt _ (Nat.two_pow_pos m)) hl
  rw [BitVec.toNat_ushiftRight, Nat.shiftRight_eq_div_pow]
  exact ⟨h1, h2⟩
theorem ofNat_of_mod {x : BitVec 64} {q : Int} (h : x.toNat % 2 ^ 8 = q.toNat) (hq : 0 ≤ q) : BitVec.setWidth 8 x = BitVec.ofInt 8 q := by
  obtain ⟨n, rfl⟩ := Int.eq_ofNat_of_zero_le hq
  apply BitVec.eq_of_toNat_eq
  rw [BitVec.toNat_setWidth, h, BitVec.ofInt_natCast, BitVec.toNat_ofNat, Nat.mod_eq_of_lt]
  · rfl
  · have h' : x.toNat % 2 ^ 8 = n := h
    rw [← h']; exact Nat.mod_lt _ (by decide)
theorem okB_at {s : Bs} (h : okB s = true) {i : Nat} (hi : i < s.length) : 0 ≤ idxS b32 (s.getD i 0#8) := by
  rw [okB, List.all_eq_true] at h
  simpa using h _ (getD_mem hi)
set_option maxRecDepth 8000 in
set_option maxHeartbeats 1000000 in
theorem c_base_Bytes {S : TS} {s p : Bs} {K : TV → TS → Prop} (hK : K (.tup [.sl (.own S.n) 1 (dB p), .lit (.int .i64 0)]) (S.push .lin)) (hd : dec3 s = some p) (h32 : s.length = 32) :
    TCall env 36 [.lit (.string (st s))] S K := by
  have hw := dec3_whole (s := s) (by omega)
  have hok : okB s = true := by
    cases h : okB s
    · rw [hw, h] at hd; cases hd
    · rfl
  rw [hw, if_pos hok] at hd
  cases hd
  refine (TCall.forget (R := fun t S' => ∃ k, t = .tup [.sl (.own k) 1 (dB (packB (allB s s.length) (5 * s.length / 8))), .lit (.int .i64 0)] ∧ S.n ≤ k ∧ S'.objs k = .lin ∧ Keep S S') ?_ fun t S1 hw ⟨k, h1, h2, h3, h4⟩ => ⟨[k], _, _, .row hw h4 h2 h3, by rw [h1]; exact .tupF (.cons (.sl 0 k 1 _ rfl) (.cons (.lit _) .nil)), hK⟩)
  refine TCall.w 44 [.tmp 2, .tmp 3] Tryd.func36 rfl rfl rfl rfl (by kernel_rfl) rfl ?_
  have hbits := allB_bit s s.length
  simp -implicitDefEqProofs (disch := omega) only [seval, go_sem]
  refine loW.asRow 4 1 rfl (.inl rfl) ?_
  refine loW_inv (fun n T S' => ∃ (i j m : Nat) (B : BitVec 64) (k : Nat), n + i = s.length ∧ T 0 = .lit (.string (st s)) ∧ T 4 = .sl (.own k) 1 (dB (packB (allB s s.length) j)) ∧ T 5 = .lit (w64 B) ∧ T 6 = .lit (.int .i64 (m : Int)) ∧ T 10 = .lit (.int .i64 (s.length : Int)) ∧ T 11 = .lit (.int .i64 (i : Int)) ∧
    m < 8 ∧ 8 * j + m = 5 * i ∧ B.toNat % 2 ^ m = accN (allB s s.length) (8 * j) m ∧ S'.objs k = .lin ∧ S.n ≤ k ∧ Keep S S') s.length ?_ ?_
  · exact ⟨0, 0, 0, 0#64, S.n, rfl, rfl, rfl, rfl, rfl, rfl, rfl, by omega, rfl, rfl, push_self _ _, Nat.le_refl _, Keep.push _ _⟩
  rintro n T S1 ⟨i, j, m, B, k, hi, h0, h4, h5, h6, h10, h11, hm, hjm, hB, hk, hkn, hkp⟩
  have hgk := Keep.refl S1
  simp -implicitDefEqProofs (disch := omega) only [seval, go_sem, h0, h4, h5, h6, h10, h11]
  refine cdK_d (fun hb => ?_) (fun hb => ?_)
  · have hlt : i < s.length := by omega
    have h0i := okB_at hok hlt
    have hi5 := (idx_spec (s.getD i 0#8)).1
    simp -implicitDefEqProofs (disch := omega) only [seval, go_sem, h0, h4, h5, h6, h10, h11]
    refine c_strings_IndexByte ?_
    obtain ⟨v, hv⟩ := Int.eq_ofNat_of_zero_le h0i
    have hacc := acc_all hlt hi5
    rw [hv] at hi5 hacc ⊢
    have hv32 : v < 2 ^ 5 := by omega
    simp -implicitDefEqProofs (disch := omega) only [seval, go_sem, h0, h4, h5, h6, h10, h11]
    have hB2 := shlOr B 5 v m hv32 (by omega)
    have hv2 : accN (allB s s.length) (8 * j + m) 5 = v := by unfold accN; rw [hjm, hacc]; rfl
    rw [hB, ← hv2, ← accN_add hbits] at hB2
    rw [hv2] at hB2
    generalize (B <<< 5 ||| BitVec.ofNat 64 v) = B2 at hB2 ⊢
    refine cdK_d (fun hc => ?_) (fun hc => ?_)
    · have hcs : ((m + 5 : Nat) : Int) - 8 = ((m - 3 : Nat) : Int) := by omega
      have e1 : accN (allB s s.length) (8 * j) (m + 5) = accN (allB s s.length) (8 * j) 8 * 2 ^ (m - 3) + accN (allB s s.length) (8 * (j + 1)) (m - 3) := by
        rw [show m + 5 = 8 + (m - 3) by omega, accN_add hbits]; rfl
      rw [show m + 5 = 8 + (m - 3) by omega] at hB2
      rw [show 8 + (m - 3) = m + 5 by omega, e1] at hB2
      have ⟨q1, q2⟩ := topBits (c := 8) (m := m - 3) (q := accN (allB s s.length) (8 * j) 8) (l := accN (allB s s.length) (8 * (j + 1)) (m - 3)) B2 (by rw [show 8 + (m - 3) = m + 5 by omega]; exact hB2) (accN_lt hbits _ _)
      have hby := ofNat_of_mod q1 (accB_nn hbits _ _).1
      simp -implicitDefEqProofs (disch := omega) only [seval, go_sem, h0, h4, h5, h6, h10, h11, hcs, hk, hby, packB_len]
      refine ⟨n - 1, by omega, i + 1, j + 1, m - 3, B2, S1.n, by omega, h0, ?_, rfl, rfl, h10, rfl, by omega, by omega, q2, push_self _ _, by have := hkp.1; omega, ?_⟩
      · show TV.sl _ _ _ = _
        rw [packB, dB_app]; rfl
      · exact (hkp.set hkn _).push' _
    · simp -implicitDefEqProofs (disch := omega) only [seval, go_sem, h0, h4, h5, h6, h10, h11]
      exact ⟨n - 1, by omega, i + 1, j, m + 5, B2, k, by omega, h0, h4, rfl, rfl, h10, rfl, by omega, by omega, hB2, hk, hkn, hkp⟩
  · have hie : i = 32 := by omega
    have hm0 : m = 0 := by omega
    have hj : j = 5 * s.length / 8 := by omega
    simp -implicitDefEqProofs (disch := omega) only [seval, go_sem, h0, h4, h5, h6, h10, h11]
    refine c_base_Text ?_ (by rw [packB_len]; omega) (by rw [packB_len]; omega)
    rw [hj, txt_pack hok (by omega)]
    simp -implicitDefEqProofs (disch := omega) only [seval, go_sem, h0, h4, h5, h6, h10, h11]
    exact ⟨k, by rw [hj], hkn, hk, hkp⟩
set_option maxRecDepth 8000 in
set_option maxHeartbeats 1000000 in
theorem c_base_Bytes_no {S : TS} {s : Bs} {K : TV → TS → Prop} (hK : K (.tup [.sl .full 0 [], .lit (.int .i64 2)]) S) (hd : dec3 s = none) (h32 : s.length = 32) :
    TCall env 36 [.lit (.string (st s))] S K := by
  have hw := dec3_whole (s := s) (by omega)
  have hok : okB s = false := by
    cases h : okB s
    · rfl
    · rw [hw, h] at hd; cases hd
  refine (TCall.forget (R := fun t S' => t = .tup [.sl .full 0 [], .lit (.int .i64 2)] ∧ Keep S S') ?_ fun t S1 hw ⟨h1, h4⟩ => ⟨[], _, _, .none hw h4, by rw [h1]; exact .tupF (.cons (.sl0 _ _ _ (.inr (.inl rfl))) (.cons (.lit _) .nil)), hK⟩)
  refine TCall.w 44 [.tmp 2, .tmp 3] Tryd.func36 rfl rfl rfl rfl (by kernel_rfl) rfl ?_
  simp -implicitDefEqProofs (disch := omega) only [seval, go_sem]
  refine loW.asRow 4 1 rfl (.inl rfl) ?_
  refine loW_inv (fun n T S' => ∃ (i m : Nat) (B : BitVec 64) (k : Nat) (xs : Bs), n + i = s.length ∧ T 0 = .lit (.string (st s)) ∧ T 4 = .sl (.own k) 1 (dB xs) ∧ T 5 = .lit (w64 B) ∧ T 6 = .lit (.int .i64 (m : Int)) ∧ T 10 = .lit (.int .i64 (s.length : Int)) ∧ T 11 = .lit (.int .i64 (i : Int)) ∧
    m < 8 ∧ xs.length ≤ i ∧ (∀ j, j < i → 0 ≤ idxS b32 (s.getD j 0#8)) ∧ S'.objs k = .lin ∧ S.n ≤ k ∧ Keep S S') s.length ?_ ?_
  · exact ⟨0, 0, 0#64, S.n, [], rfl, rfl, rfl, rfl, rfl, rfl, rfl, by omega, by simp, fun j hj => by omega, push_self _ _, Nat.le_refl _, Keep.push _ _⟩
  rintro n T S1 ⟨i, m, B, k, xs, hi, h0, h4, h5, h6, h10, h11, hm, hxs, hall, hk, hkn, hkp⟩
  simp -implicitDefEqProofs (disch := omega) only [seval, go_sem, h0, h4, h5, h6, h10, h11]
  refine cdK_d (fun hb => ?_) (fun hb => ?_)
  · have hlt : i < s.length := by omega
    have hi5 := (idx_spec (s.getD i 0#8)).1
    simp -implicitDefEqProofs (disch := omega) only [seval, go_sem, h0, h4, h5, h6, h10, h11]
    refine c_strings_IndexByte ?_
    simp -implicitDefEqProofs (disch := omega) only [seval, go_sem, h0, h4, h5, h6, h10, h11]
    refine cdK_d (fun hc => ?_) (fun hc => ?_)
    · simp -implicitDefEqProofs (disch := omega) only [seval, go_sem, h0, h4, h5, h6, h10, h11]
      exact ⟨rfl, hkp⟩
    obtain ⟨v, hv⟩ := Int.eq_ofNat_of_zero_le (a := idxS b32 (s.getD i 0#8)) (by omega)
    have hall' : ∀ j, j < i + 1 → 0 ≤ idxS b32 (s.getD j 0#8) := fun j hj => by
      rcases Nat.lt_succ_iff_lt_or_eq.1 hj with h | rfl
      · exact hall j h
      · omega
    rw [hv] at hi5 ⊢
    simp -implicitDefEqProofs (disch := omega) only [seval, go_sem, h0, h4, h5, h6, h10, h11]
    generalize (B <<< 5 ||| BitVec.ofNat 64 v) = B2
    refine cdK_d (fun hc => ?_) (fun hc => ?_)
    · have hcs : ((m + 5 : Nat) : Int) - 8 = ((m - 3 : Nat) : Int) := by omega
      simp -implicitDefEqProofs (disch := omega) only [seval, go_sem, h0, h4, h5, h6, h10, h11, hcs, hk]
      refine ⟨n - 1, by omega, i + 1, m - 3, B2, S1.n, xs ++ [BitVec.setWidth 8 (B2 >>> (m - 3))], by omega, h0, ?_, rfl, rfl, h10, rfl, by omega, by simp; omega, hall', push_self _ _, by have := hkp.1; omega, ?_⟩
      · show TV.sl _ _ _ = _
        rw [dB_app]; rfl
      · exact (hkp.set hkn _).push' _
    · simp -implicitDefEqProofs (disch := omega) only [seval, go_sem, h0, h4, h5, h6, h10, h11]
      exact ⟨n - 1, by omega, i + 1, m + 5, B2, k, xs, by omega, h0, h4, rfl, rfl, h10, rfl, by omega, by omega, hall', hk, hkn, hkp⟩
  · have : okB s = true := by
      rw [okB, List.all_eq_true]
      intro c hc
      obtain ⟨j, hj, rfl⟩ := List.getElem_of_mem hc
      have := hall j (by omega)
      rw [List.getD_eq_getElem?_getD, List.getElem?_eq_getElem hj] at this
      simpa using this
    rw [hok] at this; cases this
set_option maxRecDepth 8000 in
set_option maxHeartbeats 1000000 in
theorem c_name_Split {S : TS} {s : Bs} {K : TV → TS → Prop} (hK : K (splitV s) S) (hs : s.length ≤ 100000 := by omega) : TCall env 12 [.lit (.string (st s))] S K := by
  refine (TCall.pure (r := splitV s) ?_ (ren_splitV _ _)).mono fun t S' ⟨h1, h2⟩ => by rw [h1, h2]; exact hK
  refine TCall.w 33 [.tmp 2, .tmp 3, .tmp 4] Tryd.func12 rfl rfl rfl rfl (by kernel_rfl) rfl ?_
  by_cases h1 : s.length < 34
  · simp -implicitDefEqProofs (disch := omega) only [seval, go_sem]
    exact ⟨(split_no (.inl h1)).symm, Keep.refl _⟩
  by_cases h2 : (s.getD 32 0#8).toNat = 45
  rotate_left
  · simp -implicitDefEqProofs (disch := omega) only [seval, go_sem]
    exact ⟨(split_no (.inr (.inl h2))).symm, Keep.refl _⟩
  simp -implicitDefEqProofs (disch := omega) only [seval, go_sem]
  refine c_name_Right ?_
  cases h3 : rightS (s.drop 33)
  · simp -implicitDefEqProofs (disch := omega) only [seval, go_sem]
    exact ⟨(split_no (.inr (.inr (.inl h3)))).symm, Keep.refl _⟩
  simp -implicitDefEqProofs (disch := omega) only [seval, go_sem]
  have hl : (s.take 32).length = 32 := by rw [List.length_take]; omega
  have hd := dec3_whole (s := s.take 32) (by omega)
  cases hok : okB (s.take 32)
  · refine c_base_Bytes_no ?_ (by rw [hd, hok]; rfl) hl
    simp -implicitDefEqProofs (disch := omega) only [seval, go_sem]
    exact ⟨(split_no (.inr (.inr (.inr hok)))).symm, Keep.refl _⟩
  refine c_base_Bytes ?_ (by rw [hd, if_pos hok]) hl
  simp -implicitDefEqProofs (disch := omega) only [seval, go_sem]
  refine drW_at (idQ 7 0) followsN (by kernel_rfl) ?_
  simp -implicitDefEqProofs (disch := omega) only [seval, go_sem]
  exact ⟨(split_yes (by omega) h2 h3 hok).symm, Keep.push _ _⟩
set_option maxRecDepth 8000 in
set_option maxHeartbeats 1000000 in
theorem c_name_Is {S : TS} {s : Bs} {K : TV → TS → Prop} (hK : K (.lit (.bool (isP s))) S) (hs : s.length ≤ 100000 := by omega) : TCall env 16 [.lit (.string (st s))] S K := by
  refine TCall.w 13 [.tmp 2] Tryd.func16 rfl rfl rfl rfl (by kernel_rfl) rfl ?_
  simp -implicitDefEqProofs (disch := omega) only [seval, go_sem]
  refine c_name_Split ?_
  rw [splitV_eq]
  simp -implicitDefEqProofs (disch := omega) only [seval, go_sem]
  exact hK
end Go.Proofs.YtiijiejncefpmaaDoor
namespace Go.Proofs.YtiijiejncefpmaaDoor
open Go.RowKit TL

/-- A text goes into a list that rises (d: it is in already). -/
def insR (x : Bs) : List Bs → Bool → List Bs
  | [], d => if d = true then [] else [x]
  | y :: ys, d => (if d = false ∧ ltS x y = true then [x, y] else [y]) ++ insR x ys (d || ltS x y || decide (x = y))
def riseL (l : List Bs) : List Bs := l.foldl (fun out x => insR x out false) []
theorem drop_at {α : Type} {l : List α} {i : Nat} (d : α) (h : i < l.length) : l.drop i = l.getD i d :: l.drop (i + 1) := by
  rw [List.drop_eq_getElem_cons h, List.getD_eq_getElem?_getD, List.getElem?_eq_getElem h]; rfl
theorem dT_one (s : Bs) : [D.lit (.string (st s))] = dT [s] := rfl
set_option maxRecDepth 8000 in
set_option maxHeartbeats 1000000 in
theorem c_godownref01_Rise {S : TS} {g : Tag} {l : List Bs} {K : TV → TS → Prop} (hK : K (.sl (.own S.n) 1 (dT (riseL l))) (S.push .lin)) (hl : l.length ≤ 100000 := by omega) :
    TCall env 19 [.sl g 1 (dT l)] S K := by
  refine (TCall.rowE (s := 1) (xs := dT (riseL l)) ?_).mono fun t S' ⟨h1, h2⟩ => by rw [h1, h2]; exact hK
  refine TCall.w 70 [.tmp 2] Tryd.func19 rfl rfl rfl rfl (by kernel_rfl) rfl ?_
  simp -implicitDefEqProofs (disch := omega) only [seval, go_sem]
  refine loW.asRow 3 1 rfl (.inl rfl) ?_
  refine loW_inv (fun n T S' => ∃ (i k : Nat) (out : List Bs), n + i = l.length ∧ T 0 = .sl g 1 (dT l) ∧ T 3 = .sl (.own k) 1 (dT out) ∧ T 4 = .lit (.int .i64 (i : Int)) ∧ out.length ≤ i ∧
    (l.drop i).foldl (fun out x => insR x out false) out = riseL l ∧ S'.objs k = .lin ∧ S.n ≤ k ∧ Keep S S') l.length ?_ ?_
  · exact ⟨0, S.n, [], rfl, rfl, rfl, rfl, Nat.le_refl _, rfl, push_self _ _, Nat.le_refl _, Keep.push _ _⟩
  rintro n T S1 ⟨i, k, out, hi, h0, h3, h4, ho, hf, hk, hkn, hkp⟩
  simp -implicitDefEqProofs (disch := omega) only [seval, go_sem, h0, h3, h4]
  refine cdK_d (fun hb => ?_) (fun hb => ?_)
  · have hlt : i < l.length := by omega
    rw [drop_at [] hlt, List.foldl_cons] at hf
    generalize hx : l.getD i [] = x at hf
    simp -implicitDefEqProofs (disch := omega) only [seval, go_sem, h0, h3, h4]
    refine loW.asRow 5 1 rfl (.inl rfl) ?_
    refine loW_inv (fun n T S' => ∃ (j q : Nat) (m : List Bs) (d : Bool), n + j = out.length ∧ T 0 = .sl g 1 (dT l) ∧ T 3 = .sl (.own k) 1 (dT out) ∧ T 4 = .lit (.int .i64 (i : Int)) ∧ T 5 = .sl (.own q) 1 (dT m) ∧ T 6 = .lit (.bool d) ∧ T 7 = .lit (.int .i64 (j : Int)) ∧
      m.length ≤ j + (if d = true then 1 else 0) ∧ m ++ insR x (out.drop j) d = insR x out false ∧ S'.objs q = .lin ∧ S.n ≤ q ∧ Keep S S') out.length ?_ ?_
    · exact ⟨0, S1.n, [], false, rfl, h0, h3, h4, rfl, rfl, rfl, Nat.le_refl _, rfl, push_self _ _, by have := hkp.1; omega, hkp.push' _⟩
    rintro n2 T S2 ⟨j, q, m, d, hj, h0, h3, h4, h5, h6, h7, hm, hins, hq, hqn, hqp⟩
    simp -implicitDefEqProofs (disch := omega) only [seval, go_sem, h0, h3, h4, h5, h6, h7]
    refine cdK_d (fun hc => ?_) (fun hc => ?_)
    · have hlt2 : j < out.length := by omega
      rw [drop_at [] hlt2] at hins
      generalize hy : out.getD j [] = y at hins
      simp -implicitDefEqProofs (disch := omega) only [seval, go_sem, h0, h3, h4, h5, h6, h7]
      refine drW_at (idQ 13 0) followsN (by kernel_rfl) ?_
      cases d
      · simp only [Bool.false_eq_true, if_false] at hm
        cases hxy : ltS x y
        · simp -implicitDefEqProofs (disch := omega) only [seval, go_sem, h0, h3, h4, h5, h6, h7, hx, hy, hxy]
          refine drW_at (idQ 13 0) followsN (by kernel_rfl) ?_
          simp -implicitDefEqProofs (disch := omega) only [seval, go_sem, h0, h3, h4, h5, h6, h7, hx, hy, hxy, hq]
          refine ⟨n2 - 1, by omega, j + 1, S2.n, m ++ [y], decide (x = y), by omega, h0, h3, h4, ?_, rfl, rfl, by simp; omega, ?_, push_self _ _, by have := hqp.1; omega, (hqp.set hqn _).push' _⟩
          · show TV.sl _ _ _ = _
            rw [dT_app]; rfl
          · rw [← hins]
            simp [insR, hxy]
        · simp -implicitDefEqProofs (disch := omega) only [seval, go_sem, h0, h3, h4, h5, h6, h7, hx, hy, hxy, hq]
          refine drW_at (idQ 13 0) followsN (by kernel_rfl) ?_
          simp -implicitDefEqProofs (disch := omega) only [seval, go_sem, h0, h3, h4, h5, h6, h7, hx, hy, hxy, hq]
          refine ⟨n2 - 1, by omega, j + 1, S2.n + 1, m ++ [x, y], true, by omega, h0, h3, h4, ?_, rfl, rfl, by simp; omega, ?_, push_self _ _, by have := hqp.1; omega, ((hqp.set hqn _).push' _).push' _⟩
          · show TV.sl _ _ _ = _
            rw [dT_app, List.append_assoc]; rfl
          · rw [← hins]
            simp [insR, hxy]
      · simp only [if_true] at hm
        simp -implicitDefEqProofs (disch := omega) only [seval, go_sem, h0, h3, h4, h5, h6, h7, hx, hy]
        refine drW_at (idQ 13 0) followsN (by kernel_rfl) ?_
        simp -implicitDefEqProofs (disch := omega) only [seval, go_sem, h0, h3, h4, h5, h6, h7, hx, hy, hq]
        refine ⟨n2 - 1, by omega, j + 1, S2.n, m ++ [y], true, by omega, h0, h3, h4, ?_, rfl, rfl, by simp; omega, ?_, push_self _ _, by have := hqp.1; omega, (hqp.set hqn _).push' _⟩
        · show TV.sl _ _ _ = _
          rw [dT_app]; rfl
        · rw [← hins]
          simp [insR]
    · rw [List.drop_of_length_le (by omega)] at hins
      simp -implicitDefEqProofs (disch := omega) only [seval, go_sem, h0, h3, h4, h5, h6, h7]
      cases d
      · simp only [insR, Bool.false_eq_true, if_false] at hins hm
        simp -implicitDefEqProofs (disch := omega) only [seval, go_sem, h0, h3, h4, h5, h6, h7, hx, hq]
        refine ⟨n - 1, by omega, i + 1, S2.n, m ++ [x], by omega, h0, ?_, rfl, by simp; omega, by rw [hins]; exact hf, push_self _ _, by have := hqp.1; omega, (hqp.set hqn _).push' _⟩
        show TV.sl _ _ _ = _
        rw [dT_app]; rfl
      · simp only [insR, if_true, List.append_nil] at hins hm
        simp -implicitDefEqProofs (disch := omega) only [seval, go_sem, h0, h3, h4, h5, h6, h7, hx, hq]
        exact ⟨n - 1, by omega, i + 1, q, m, by omega, h0, rfl, rfl, by omega, by rw [hins]; exact hf, hq, hqn, hqp⟩
  · rw [List.drop_of_length_le (by omega)] at hf
    simp only [List.foldl_nil] at hf
    simp -implicitDefEqProofs (disch := omega) only [seval, go_sem, h0, h3, h4]
    exact ⟨.inl ⟨k, by rw [hf], hkn, hk⟩, hkp⟩

theorem quo64 (P : Program) (ty : TypeId) (x : BitVec 64) (b : Int) (h : 0 < b ∧ b < 18446744073709551616) : tvBin P .quo ty (w64 x) (.int .u64 b) = some (w64 (x / BitVec.ofInt 64 b)) := by
  obtain ⟨n, rfl⟩ : ∃ n : Nat, b = (n : Int) := ⟨b.toNat, by omega⟩
  have h1 : x.toNat / n < 2 ^ IntKind.u64.bits := Nat.lt_of_le_of_lt (Nat.div_le_self _ _) x.isLt
  simp only [tvBin, tvInt]
  rw [if_neg (by simp), if_pos trivial, if_neg (by omega), BitVec.ofInt_natCast, ← Int.ofNat_tdiv, wrap_nat rfl h1]
  show some (Value.int .u64 _) = some (Value.int .u64 ((x / BitVec.ofNat 64 n).toNat : Int))
  rw [BitVec.toNat_udiv, BitVec.toNat_ofNat, Nat.mod_eq_of_lt (a := n) (by omega)]
attribute [go_sem] quo64
theorem num2_r (n : Nat) (h : n < 18446744073709551616) : [D.lit (w8 (BitVec.setWidth 8 (BitVec.ofNat 64 n % 65536#64 / 256#64))), D.lit (w8 (BitVec.setWidth 8 (BitVec.ofNat 64 n % 65536#64 % 256#64)))] = dB (num2 n) := by
  have e1 : BitVec.setWidth 8 (BitVec.ofNat 64 n % 65536#64 / 256#64) = BitVec.ofNat 8 (n >>> 8) := by
    apply BitVec.eq_of_toNat_eq
    simp [BitVec.toNat_udiv, BitVec.toNat_umod, Nat.shiftRight_eq_div_pow]
    try omega
  have e2 : BitVec.setWidth 8 (BitVec.ofNat 64 n % 65536#64 % 256#64) = BitVec.ofNat 8 n := by
    apply BitVec.eq_of_toNat_eq
    simp [BitVec.toNat_umod]
  rw [e1, e2]; rfl
set_option maxRecDepth 8000 in
set_option maxHeartbeats 1000000 in
theorem c_godownref04_Num {S : TS} {n : Nat} {K : TV → TS → Prop} (hK : K (.sl .full 1 (dB (num2 n))) S) (hn : n ≤ 1000000 := by omega) : TCall env 64 [.lit (.int .i64 (n : Int))] S K := by
  refine TCall.w 14 [.tmp 2] Tryd.func64 rfl rfl rfl rfl (by kernel_rfl) rfl ?_
  have hr := num2_r n (by omega)
  simp -implicitDefEqProofs (disch := omega) only [seval, go_sem, hr]
  exact hK
set_option maxRecDepth 8000 in
set_option maxHeartbeats 1000000 in
theorem c_godownref04_Text {S : TS} {s : Bs} {K : TV → TS → Prop} (hK : K (.sl (.own S.n) 1 (dB (text2 s))) (S.push .lin)) (hs : s.length ≤ 900000 := by omega) : TCall env 39 [.lit (.string (st s))] S K := by
  refine (TCall.row (s := 1) (xs := dB (text2 s)) ?_).mono fun t S' ⟨h1, h2⟩ => by rw [h1, h2]; exact hK
  refine TCall.w 9 [.tmp 2] Tryd.func39 rfl rfl rfl rfl (by kernel_rfl) rfl ?_
  simp -implicitDefEqProofs (disch := omega) only [seval, go_sem]
  refine c_godownref04_Num ?_
  simp -implicitDefEqProofs (disch := omega) only [seval, go_sem, num2_len]
  exact ⟨S.n + 1, by rw [text2, dB_app], by omega, push_self _ _, ((Keep.refl S).push' _).push' _⟩
set_option maxRecDepth 8000 in
set_option maxHeartbeats 1000000 in
theorem c_godownref04_Texts {S : TS} {g : Tag} {l : List Bs} {K : TV → TS → Prop} (hK : K (.sl (.own S.n) 1 (dB (texts2 l))) (S.push .lin)) (hl : (texts2 l).length ≤ 900000 := by omega) : TCall env 41 [.sl g 1 (dT l)] S K := by
  refine (TCall.row (s := 1) (xs := dB (texts2 l)) ?_).mono fun t S' ⟨h1, h2⟩ => by rw [h1, h2]; exact hK
  refine TCall.w 23 [.tmp 2] Tryd.func41 rfl rfl rfl rfl (by kernel_rfl) rfl ?_
  have hge := texts2_ge l
  simp -implicitDefEqProofs (disch := omega) only [seval, go_sem]
  refine loW.asRow 3 1 rfl (.inr rfl) ?_
  refine loW_inv (fun n T S' => ∃ (i k : Nat), n + i = l.length ∧ T 0 = .sl g 1 (dT l) ∧ T 3 = .sl (.own k) 1 (dB (BitVec.ofNat 8 l.length :: (l.take i).flatMap text2)) ∧ T 4 = .lit (.int .i64 (i : Int)) ∧ S'.objs k = .lin ∧ k < S'.n ∧ S.n ≤ k ∧ Keep S S') l.length ?_ ?_
  · exact ⟨0, S.n, rfl, rfl, rfl, rfl, push_self _ _, Nat.lt_succ_self _, Nat.le_refl _, Keep.push _ _⟩
  rintro n T S1 ⟨i, k, hi, h0, h3, h4, hk, hkl, hkn, hkp⟩
  simp -implicitDefEqProofs (disch := omega) only [seval, go_sem, h0, h3, h4]
  refine cdK_d (fun hb => ?_) (fun hb => ?_)
  · simp -implicitDefEqProofs (disch := omega) only [seval, go_sem, h0, h3, h4]
    have hx := take_succ_D l (i := i) [] (by omega)
    have hs := text_in (x := l.getD i []) (l := l) (getD_mem (by omega))
    have ht := take_texts l i
    have htl := text2_len (l.getD i [])
    have hlc : (BitVec.ofNat 8 l.length :: (l.take i).flatMap text2).length = ((l.take i).flatMap text2).length + 1 := rfl
    refine c_godownref04_Text ?_
    simp -implicitDefEqProofs (disch := omega) only [seval, go_sem, h0, h3, h4, hk]
    refine ⟨n - 1, by omega, i + 1, S1.n + 1, by omega, h0, ?_, rfl, push_self _ _, Nat.lt_succ_self _, by have := hkp.1; omega, ?_⟩
    · show TV.sl _ _ _ = _
      rw [hx, List.flatMap_append, ← List.cons_append, dB_app]; simp
    · exact ((hkp.set hkn _).push' _).push' _
  · rw [List.take_of_length_le (by omega)] at h3
    simp -implicitDefEqProofs (disch := omega) only [seval, go_sem, h0, h3, h4]
    exact ⟨k, rfl, hkn, hk, hkp⟩
end Go.Proofs.YtiijiejncefpmaaDoor
namespace Go.Proofs.YtiijiejncefpmaaDoor
open Go.RowKit TL

theorem ltS_irrefl : ∀ a : Bs, ltS a a = false
  | [] => rfl
  | x :: a => by simp [ltS, ltS_irrefl a]
theorem ltS_trans : ∀ {a b c : Bs}, ltS a b = true → ltS b c = true → ltS a c = true
  | _, [], _, h, _ => by cases ‹Bs› <;> simp [ltS] at h
  | _, _ :: _, [], _, h => by simp [ltS] at h
  | [], _ :: _, _ :: _, _, _ => rfl
  | x :: a, y :: b, z :: c, h1, h2 => by
    simp only [ltS, Bool.or_eq_true, decide_eq_true_eq, Bool.and_eq_true, beq_iff_eq] at h1 h2 ⊢
    rcases h1 with h1 | ⟨rfl, h1⟩
    · rcases h2 with h2 | ⟨rfl, h2⟩
      · exact .inl (by omega)
      · exact .inl h1
    · rcases h2 with h2 | ⟨rfl, h2⟩
      · exact .inl h2
      · exact .inr ⟨rfl, ltS_trans h1 h2⟩
theorem ltS_total : ∀ a b : Bs, ltS a b = true ∨ a = b ∨ ltS b a = true
  | [], [] => .inr (.inl rfl)
  | [], _ :: _ => .inl rfl
  | _ :: _, [] => .inr (.inr rfl)
  | x :: a, y :: b => by
    simp only [ltS, Bool.or_eq_true, decide_eq_true_eq, Bool.and_eq_true, beq_iff_eq, List.cons.injEq]
    rcases Nat.lt_trichotomy x.toNat y.toNat with h | h | h
    · exact .inl (.inl h)
    · have hxy : x = y := BitVec.eq_of_toNat_eq h
      subst hxy
      rcases ltS_total a b with h | h | h
      · exact .inl (.inr ⟨rfl, h⟩)
      · exact .inr (.inl ⟨rfl, h⟩)
      · exact .inr (.inr (.inr ⟨rfl, h⟩))
    · exact .inr (.inr (.inl h))
theorem ltS_asymm {a b : Bs} (h : ltS a b = true) : ltS b a = false := by
  cases h' : ltS b a
  · rfl
  · have := ltS_trans h h'; rw [ltS_irrefl] at this; cases this
/-- A list that rises. -/
abbrev Ris (l : List Bs) : Prop := l.Pairwise fun a b => ltS a b = true
theorem insR_t (x : Bs) : ∀ l, insR x l true = l
  | [] => rfl
  | y :: l => by simp [insR, insR_t x l]
theorem insR_mem (x : Bs) : ∀ (l : List Bs) (y : Bs), Ris l → (y ∈ insR x l false ↔ y = x ∨ y ∈ l)
  | [], y, _ => by simp [insR]
  | z :: l, y, h => by
    have ⟨h1, h2⟩ := List.pairwise_cons.1 h
    cases hz : ltS x z
    · by_cases hxz : x = z
      · subst hxz
        simp only [insR, hz, decide_true, Bool.or_true, insR_t, Bool.false_eq_true, and_false, if_false]
        simp
      · simp only [insR, hz, hxz, decide_false, Bool.or_false, Bool.false_eq_true, and_false, if_false]
        simp only [List.mem_append, List.mem_cons, List.not_mem_nil, or_false, insR_mem x l y h2]
        constructor
        · rintro (h | h | h)
          · exact .inr (.inl h)
          · exact .inl h
          · exact .inr (.inr h)
        · rintro (h | h | h)
          · exact .inr (.inl h)
          · exact .inl h
          · exact .inr (.inr h)
    · simp only [insR, hz, Bool.false_or, Bool.true_or, insR_t]
      simp [or_assoc]
theorem insR_ris (x : Bs) : ∀ (l : List Bs), Ris l → Ris (insR x l false)
  | [], _ => by simp [insR]
  | z :: l, h => by
    have ⟨h1, h2⟩ := List.pairwise_cons.1 h
    cases hz : ltS x z
    · by_cases hxz : x = z
      · subst hxz
        simp only [insR, hz, decide_true, Bool.or_true, insR_t, Bool.false_eq_true, and_false, if_false]
        exact h
      · simp only [insR, hz, hxz, decide_false, Bool.or_false, Bool.false_eq_true, and_false, if_false]
        refine List.pairwise_cons.2 ⟨fun y hy => ?_, insR_ris x l h2⟩
        rcases (insR_mem x l y h2).1 hy with rfl | hy
        · rcases ltS_total y z with h | h | h
          · rw [hz] at h; cases h
          · exact absurd h hxz
          · exact h
        · exact h1 y hy
    · simp only [insR, hz, Bool.false_or, Bool.true_or, insR_t]
      refine List.pairwise_cons.2 ⟨fun y hy => ?_, h⟩
      rcases List.mem_cons.1 hy with rfl | hy
      · exact hz
      · exact ltS_trans hz (h1 y hy)
theorem foldR : ∀ (l out : List Bs), Ris out → Ris (l.foldl (fun out x => insR x out false) out) ∧ ∀ y, y ∈ l.foldl (fun out x => insR x out false) out ↔ y ∈ l ∨ y ∈ out
  | [], out, h => ⟨h, fun y => by simp⟩
  | x :: l, out, h => by
    have ⟨h1, h2⟩ := foldR l _ (insR_ris x out h)
    refine ⟨h1, fun y => ?_⟩
    rw [List.foldl_cons, h2, insR_mem x out y h]
    simp only [List.mem_cons]
    constructor
    · rintro (h | h | h)
      · exact .inl (.inr h)
      · exact .inl (.inl h)
      · exact .inr h
    · rintro ((h | h) | h)
      · exact .inr (.inl h)
      · exact .inl h
      · exact .inr (.inr h)
theorem riseL_ris (l : List Bs) : Ris (riseL l) := (foldR l [] List.Pairwise.nil).1
theorem riseL_mem (l : List Bs) (y : Bs) : y ∈ riseL l ↔ y ∈ l := by
  have := (foldR l [] List.Pairwise.nil).2 y
  simpa [riseL] using this
theorem ris_ext : ∀ {a b : List Bs}, Ris a → Ris b → (∀ y, y ∈ a ↔ y ∈ b) → a = b
  | [], [], _, _, _ => rfl
  | [], y :: b, _, _, h => by have := (h y).2 (by simp); cases this
  | x :: a, [], _, _, h => by have := (h x).1 (by simp); cases this
  | x :: a, y :: b, ha, hb, h => by
    have ⟨a1, a2⟩ := List.pairwise_cons.1 ha
    have ⟨b1, b2⟩ := List.pairwise_cons.1 hb
    have hxy : x = y := by
      have h1 := (h x).1 (by simp)
      have h2 := (h y).2 (by simp)
      rcases List.mem_cons.1 h1 with h1 | h1
      · exact h1
      · rcases List.mem_cons.1 h2 with h2 | h2
        · exact h2.symm
        · have := ltS_asymm (a1 y h2); rw [b1 x h1] at this; cases this
    subst hxy
    congr 1
    refine ris_ext a2 b2 fun z => ?_
    constructor
    · intro hz
      rcases List.mem_cons.1 ((h z).1 (List.mem_cons_of_mem _ hz)) with rfl | h'
      · have := a1 z hz; rw [ltS_irrefl] at this; cases this
      · exact h'
    · intro hz
      rcases List.mem_cons.1 ((h z).2 (List.mem_cons_of_mem _ hz)) with rfl | h'
      · have := b1 z hz; rw [ltS_irrefl] at this; cases this
      · exact h'
theorem riseL_eq {l : List Bs} (h : Ris l) : riseL l = l := ris_ext (riseL_ris l) h (riseL_mem l)
theorem riseL_iff (l : List Bs) : l = riseL l ↔ Ris l := ⟨fun h => by rw [h]; exact riseL_ris l, fun h => (riseL_eq h).symm⟩
theorem riseL_len (l : List Bs) : (riseL l).length ≤ l.length := by
  have : ∀ (x : Bs) (l : List Bs) (d : Bool), (insR x l d).length ≤ l.length + 1 := by
    intro x l
    induction l with
    | nil => intro d; cases d <;> simp [insR]
    | cons y l ih =>
      intro d
      cases d
      · cases hz : ltS x y
        · have := ih (false || ltS x y || decide (x = y))
          simp only [hz] at this
          simp only [insR, hz, Bool.false_eq_true, and_false, if_false, List.length_append, List.length_cons, List.length_nil]
          omega
        · simp [insR, hz, insR_t]
      · simp [insR_t]
  have h2 : ∀ (l out : List Bs), (l.foldl (fun out x => insR x out false) out).length ≤ l.length + out.length := by
    intro l
    induction l with
    | nil => intro out; simp
    | cons x l ih => intro out; have := ih (insR x out false); have := this; have h3 := this; have := ‹∀ (x : Bs) (l : List Bs) (d : Bool), _› x out false; simp only [List.foldl_cons, List.length_cons]; omega
  have := h2 l []
  simpa [riseL] using this
theorem ris_adj {l : List Bs} (h : ∀ i, i + 1 < l.length → ltS (l.getD i []) (l.getD (i + 1) []) = true) : Ris l := by
  induction l with
  | nil => exact List.Pairwise.nil
  | cons x l ih =>
    have h' : ∀ i, i + 1 < l.length → ltS (l.getD i []) (l.getD (i + 1) []) = true := fun i hi => by have := h (i + 1) (by simp; omega); simpa using this
    refine List.pairwise_cons.2 ⟨fun y hy => ?_, ih h'⟩
    cases l with
    | nil => cases hy
    | cons z l =>
      have h0 := h 0 (by simp)
      simp at h0
      rcases List.mem_cons.1 hy with rfl | hy
      · exact h0
      · exact ltS_trans h0 ((List.pairwise_cons.1 (ih h')).1 y hy)
theorem ris_at {l : List Bs} (h : Ris l) {i : Nat} (hi : i + 1 < l.length) : ltS (l.getD i []) (l.getD (i + 1) []) = true := by
  rw [List.getD_eq_getElem?_getD, List.getD_eq_getElem?_getD, List.getElem?_eq_getElem hi, List.getElem?_eq_getElem (by omega : i < l.length)]
  exact List.pairwise_iff_getElem.1 h i (i + 1) (by omega) hi (by omega)
end Go.Proofs.YtiijiejncefpmaaDoor
namespace Go.Proofs.YtiijiejncefpmaaDoor
open Go.RowKit TL

theorem rightS_len {s : Bs} (h : rightS s = true) : s.length ≤ 40 := by
  simp only [rightS, Bool.and_eq_true, decide_eq_true_eq] at h
  exact h.1.1.2
theorem txtS_len (p : Bs) : (txtS p).length = (8 * p.length + 4) / 5 := txtN_len _ _
theorem isP_len {s : Bs} (h : isP s = true) : s.length ≤ 73 := by
  unfold isP splitS at h
  split at h
  · rename_i h1
    obtain ⟨h1, h2, h3, h4⟩ := h1
    have h5 := rightS_len h3
    rw [List.length_drop] at h5
    omega
  · cases h
theorem texts2_le {l : List Bs} (h : l.all isP = true) : (texts2 l).length ≤ 1 + 75 * l.length := by
  rw [texts2_len]
  induction l with
  | nil => simp
  | cons x l ih =>
    rw [List.all_cons, Bool.and_eq_true] at h
    have := ih h.2
    have := isP_len h.1
    rw [List.flatMap_cons, List.length_append, text2_len, List.length_cons]
    omega
def refsOk (refs : List Bs) : Bool := decide (refs.length ≤ 255) && decide (refs = riseL refs) && refs.all isP
def mkP (nm ar : Bs) (refs : List Bs) : Bs := txtS (fold20 (sha (text2 (sha ar) ++ texts2 refs ++ text2 nm))) ++ 45#8 :: nm
/-- What Make answers: a path, or an error's number. -/
def mkV (nm ar : Bs) (refs : List Bs) : TV :=
  if rightS nm = false then .tup [.lit (.string (st [])), .lit (.int .i64 4)]
  else if refsOk refs = false then .tup [.lit (.string (st [])), .lit (.int .i64 1)]
  else .tup [.lit (.string (st (mkP nm ar refs))), .lit (.int .i64 0)]
theorem ren_mkV (n : Nat) (nm ar : Bs) (refs : List Bs) : Ren n [] (mkV nm ar refs) (mkV nm ar refs) := by
  unfold mkV
  split
  · exact .tupF (.cons (.lit _) (.cons (.lit _) .nil))
  · split <;> exact .tupF (.cons (.lit _) (.cons (.lit _) .nil))
theorem all_at {l : List Bs} (h : ∀ i, i < l.length → isP (l.getD i []) = true) : l.all isP = true := by
  rw [List.all_eq_true]
  intro x hx
  obtain ⟨i, hi, rfl⟩ := List.getElem_of_mem hx
  have := h i hi
  rwa [List.getD_eq_getElem?_getD, List.getElem?_eq_getElem hi] at this
theorem all_no {l : List Bs} {i : Nat} (hi : i < l.length) (h : isP (l.getD i []) = false) : l.all isP = false := by
  cases h' : l.all isP
  · rfl
  · rw [List.all_eq_true] at h'
    rw [h' _ (getD_mem hi)] at h; cases h
set_option maxRecDepth 8000 in
set_option maxHeartbeats 1000000 in
theorem c_godownref07_Make {S : TS} {nm ar : Bs} {ga g : Tag} {refs : List Bs} {K : TV → TS → Prop} (hK : K (mkV nm ar refs) S) (hr : ∀ s ∈ refs, s.length ≤ 100000) (hn : nm.length ≤ 100000 := by omega) (ha : ar.length ≤ 1000000 := by omega) (hl : refs.length ≤ 100000 := by omega) :
    TCall env 17 [.agg [.sl .none 1 (gD fW), .sl .none 1 (gD kW)], .lit (.string (st nm)), .sl ga 1 (dB ar), .sl g 1 (dT refs)] S K := by
  refine (TCall.pure (r := mkV nm ar refs) ?_ (ren_mkV _ _ _ _)).mono fun t S' ⟨h1, h2⟩ => by rw [h1, h2]; exact hK
  refine TCall.w 57 [.tmp 8, .tmp 9] Tryd.func17 rfl rfl rfl rfl (by kernel_rfl) rfl ?_
  simp -implicitDefEqProofs (disch := omega) only [seval, go_sem]
  refine c_godownref07_Right ?_
  cases hrn : rightS nm
  · simp -implicitDefEqProofs (disch := omega) only [seval, go_sem]
    exact ⟨by show TV.tup _ = _; rw [mkV, if_pos hrn], Keep.push _ _⟩
  simp -implicitDefEqProofs (disch := omega) only [seval, go_sem]
  by_cases hlen : refs.length ≤ 255
  rotate_left
  · simp -implicitDefEqProofs (disch := omega) only [seval, go_sem]
    exact ⟨by show TV.tup _ = _; rw [mkV, if_neg (by rw [hrn]; simp), if_pos (by simp [refsOk, hlen])], Keep.push _ _⟩
  simp -implicitDefEqProofs (disch := omega) only [seval, go_sem]
  refine c_godownref01_Rise ?_
  simp -implicitDefEqProofs (disch := omega) only [seval, go_sem]
  refine c_godownref01_Texts ?_
  by_cases hris : refs = riseL refs
  rotate_left
  · simp -implicitDefEqProofs (disch := omega) only [seval, go_sem, hris]
    exact ⟨by show TV.tup _ = _; rw [mkV, if_neg (by rw [hrn]; simp), if_pos (by simp [refsOk, hris])], ((Keep.refl S).push' _).push' _⟩
  rw [← hris]
  simp -implicitDefEqProofs (disch := omega) only [seval, go_sem]
  obtain ⟨S2, hS2⟩ : ∃ S2, S2 = (S.push (.cells 32 [.sl .none 1 (gD fW), .sl .none 1 (gD kW)])).push .lin := ⟨_, rfl⟩
  rw [← hS2]
  refine loW_inv (fun n T S' => ∃ i : Nat, n + i = refs.length ∧ T 1 = .lit (.string (st nm)) ∧ T 2 = .sl ga 1 (dB ar) ∧ T 3 = .sl g 1 (dT refs) ∧ T 4 = .ptr S.n 0 ∧ T 10 = .lit (.int .i64 (i : Int)) ∧ (∀ j, j < i → isP (refs.getD j []) = true) ∧ S' = S2) refs.length ?_ ?_
  · exact ⟨0, rfl, rfl, rfl, rfl, rfl, rfl, fun j hj => by omega, rfl⟩
  rintro n T S' ⟨i, hi, h1, h2, h3, h4, h10, hall, rfl⟩
  have hn2 : S'.n = S.n + 2 := by rw [hS2]; rfl
  have ho : S'.objs S.n = .cells 32 [.sl .none 1 (gD fW), .sl .none 1 (gD kW)] := by rw [hS2]; simp -implicitDefEqProofs (disch := omega) only [seval, go_sem]
  have hkp : Keep S S' := by rw [hS2]; exact ((Keep.refl S).push' _).push' _
  simp -implicitDefEqProofs (disch := omega) only [seval, go_sem, h1, h2, h3, h4, h10]
  refine cdK_d (fun hb => ?_) (fun hb => ?_)
  · have hlt : i < refs.length := by omega
    have hx := hr _ (getD_mem (d := []) hlt)
    simp -implicitDefEqProofs (disch := omega) only [seval, go_sem, h1, h2, h3, h4, h10]
    refine c_godownref07_Is ?_
    cases hp : isP (refs.getD i [])
    · simp -implicitDefEqProofs (disch := omega) only [seval, go_sem]
      exact ⟨by show TV.tup _ = _; rw [mkV, if_neg (by rw [hrn]; simp), if_pos (by rw [refsOk, all_no hlt hp]; simp)], hkp⟩
    simp -implicitDefEqProofs (disch := omega) only [seval, go_sem, h1, h2, h3, h4, h10]
    exact ⟨n - 1, by omega, i + 1, by omega, h1, h2, h3, h4, rfl, fun j hj => by
      rcases Nat.lt_succ_iff_lt_or_eq.1 hj with h | rfl
      · exact hall j h
      · exact hp, rfl⟩
  · have hok : refs.all isP = true := all_at fun j hj => hall j (by omega)
    have hlt := texts2_le hok
    have hs32 := sha_len ar
    have hs33 := text2_len (sha ar)
    have hnl := rightS_len hrn
    have hs34 := text2_len nm
    simp -implicitDefEqProofs (disch := omega) only [seval, go_sem, h1, h2, h3, h4, h10, ho]
    refine c_godownref02_Sum ?_
    simp -implicitDefEqProofs (disch := omega) only [seval, go_sem, h1, h2, h3, h4, h10, ho]
    refine c_godownref04_Text ?_
    simp -implicitDefEqProofs (disch := omega) only [seval, go_sem, h1, h2, h3, h4, h10, ho]
    refine c_godownref04_Texts ?_
    simp -implicitDefEqProofs (disch := omega) only [seval, go_sem, h1, h2, h3, h4, h10, ho]
    refine c_godownref04_Text ?_
    simp -implicitDefEqProofs (disch := omega) only [seval, go_sem, h1, h2, h3, h4, h10, ho]
    rw [← dB_app, ← dB_app]
    have hpl : (text2 (sha ar) ++ texts2 refs ++ text2 nm).length ≤ 100000 := by simp only [List.length_append]; omega
    generalize hp : text2 (sha ar) ++ texts2 refs ++ text2 nm = p at hpl
    have h20 := fold20_len (sha p)
    refine c_godownref02_Short ?_
    simp -implicitDefEqProofs (disch := omega) only [seval, go_sem, h1, h2, h3, h4, h10, ho]
    refine c_godownref03_Text ?_
    have h32 := txtS_len (fold20 (sha p))
    have h33 : ([UInt8.toBitVec 45] : Bs).length = 1 := rfl
    have h34 : (txtS (fold20 (sha p)) ++ [UInt8.toBitVec 45]).length = (txtS (fold20 (sha p))).length + 1 := by simp
    simp -implicitDefEqProofs (disch := omega) only [seval, go_sem, h1, h2, h3, h4, h10, ho]
    refine ⟨?_, by repeat (first | exact hkp | refine Keep.push' ?_ _)⟩
    show TV.tup _ = _
    rw [mkV, if_neg (by rw [hrn]; simp), if_neg (by rw [refsOk, hok, decide_eq_true hlen, decide_eq_true hris]; simp), mkP, hp, List.append_assoc]
    rfl
end Go.Proofs.YtiijiejncefpmaaDoor
namespace Go.Proofs.YtiijiejncefpmaaDoor
open Go.RowKit TL

theorem idx_b32 (k : Nat) (h : k < 32) : 0 ≤ idxS b32 (b32.getD k 0#8) := by
  have : ∀ k : Fin 32, 0 ≤ idxS b32 (b32.getD k.val 0#8) := by decide +kernel
  exact this ⟨k, h⟩
theorem txtN_ok (p : Bs) : ∀ j, okB (txtN p j) = true
  | 0 => rfl
  | j + 1 => by
    have h := txtN_ok p j
    have h2 := idx_b32 _ (bitsN_lt p (5 * j) 5)
    rw [okB] at h ⊢
    rw [txtN, List.all_append, h]
    simpa using h2
theorem txtS_ok (p : Bs) : okB (txtS p) = true := txtN_ok _ _
/-- A path that was made: its letters, its name. -/
def ltrP (nm ar : Bs) (refs : List Bs) : Bs := txtS (fold20 (sha (text2 (sha ar) ++ texts2 refs ++ text2 nm)))
theorem ltrP_len (nm ar : Bs) (refs : List Bs) : (ltrP nm ar refs).length = 32 := by rw [ltrP, txtS_len, fold20_len]
theorem mkP_eq (nm ar : Bs) (refs : List Bs) : mkP nm ar refs = ltrP nm ar refs ++ 45#8 :: nm := rfl
theorem split_app (a nm : Bs) (h32 : a.length = 32) : splitS (a ++ 45#8 :: nm) = if rightS nm = true ∧ okB a = true then some (a, nm) else none := by
  have h1 : (a ++ 45#8 :: nm).getD 32 0#8 = 45#8 := by
    rw [List.getD_eq_getElem?_getD, List.getElem?_append_right (by omega), h32]; rfl
  have h2 : (a ++ 45#8 :: nm).take 32 = a := by rw [List.take_append_of_le_length (by omega), List.take_of_length_le (by omega)]
  have h3 : (a ++ 45#8 :: nm).drop 33 = nm := by
    rw [List.drop_append, List.drop_of_length_le (by omega), h32]; rfl
  unfold splitS
  rw [h1, h2, h3]
  by_cases hr : rightS nm = true
  · have hl : 1 ≤ nm.length := by
      simp only [rightS, Bool.and_eq_true, decide_eq_true_eq] at hr
      exact hr.1.1.1
    by_cases ho : okB a = true
    · rw [if_pos ⟨by simp [h32]; omega, rfl, hr, ho⟩, if_pos ⟨hr, ho⟩]
    · rw [if_neg (fun h => ho h.2.2.2), if_neg (fun h => ho h.2)]
  · rw [if_neg (fun h => hr h.2.2.1), if_neg (fun h => hr h.1)]
theorem split_mkP {nm ar : Bs} {refs : List Bs} (h : rightS nm = true) : splitS (mkP nm ar refs) = some (ltrP nm ar refs, nm) := by
  rw [mkP_eq, split_app _ _ (ltrP_len _ _ _), if_pos ⟨h, txtS_ok _⟩]
theorem splitV_mkP {nm ar : Bs} {refs : List Bs} (h : rightS nm = true) : splitV (mkP nm ar refs) = .tup [.lit (.string (st (ltrP nm ar refs))), .lit (.string (st nm)), .lit (.bool true)] := by
  rw [splitV, split_mkP h]
theorem isP_mkP {nm ar : Bs} {refs : List Bs} (h : rightS nm = true) : isP (mkP nm ar refs) = true := by rw [isP, split_mkP h]; rfl
theorem mkP_len (nm ar : Bs) (refs : List Bs) : (mkP nm ar refs).length = 33 + nm.length := by rw [mkP_eq, List.length_append, ltrP_len, List.length_cons]; omega
theorem mkV_ok {nm ar : Bs} {refs : List Bs} (h : rightS nm = true) (hr : refsOk refs = true) : mkV nm ar refs = .tup [.lit (.string (st (mkP nm ar refs))), .lit (.int .i64 0)] := by
  rw [mkV, if_neg (by rw [h]; simp), if_neg (by rw [hr]; simp)]
abbrev nN : Bs := [UInt8.toBitVec 110]
theorem right_n : rightS nN = true := by decide +kernel
theorem refs_nil : refsOk [] = true := by decide +kernel
theorem c_New {S : TS} {K : TV → TS → Prop} (hK : K (.agg [.sl .none 1 (gD fW), .sl .none 1 (gD kW)]) S) : TCall env 18 [] S K :=
  c_godownref02_New (by rw [tabH_eq, tabK_eq]; exact hK)
/-- Make with no refs given. -/
theorem c_ref07_Make0 {S : TS} {nm ar : Bs} {ga : Tag} {K : TV → TS → Prop} (hK : K (.tup [.lit (.string (st (mkP nm ar []))), .lit (.int .i64 0)]) S) (hn : rightS nm = true) (ha : ar.length ≤ 1000000 := by omega) :
    TCall env 17 [.agg [.sl .none 1 (gD fW), .sl .none 1 (gD kW)], .lit (.string (st nm)), .sl ga 1 (dB ar), .sl .full 0 []] S K :=
  .argL (.same (.same (.same (.empty .nil)))) (c_godownref07_Make (g := .full) (refs := []) (by rw [mkV_ok hn refs_nil]; exact hK) (fun s h => by cases h) (by have := rightS_len hn; omega) ha (by simp))
theorem tmodNN (m n : Nat) : (m : Int).tmod (n : Int) = ((m % n : Nat) : Int) := (Int.ofNat_tmod m n).symm
/-- A text behind a path's letters. -/
theorem isP_title (a t : Bs) (h32 : a.length = 32) (hok : okB a = true) : isP (a ++ 45#8 :: t) = rightS t := by
  rw [isP, split_app a t h32]
  cases h : rightS t
  · rw [if_neg (by simp)]; rfl
  · rw [if_pos ⟨rfl, hok⟩]; rfl
/-- Paths of numbers. -/
def pthN (b : BitVec 8) : Bs := mkP [UInt8.toBitVec 110] [b] []
theorem pthN_len (b : BitVec 8) : (pthN b).length = 34 := by rw [pthN, mkP_len]; rfl
theorem pthN_isP (b : BitVec 8) : isP (pthN b) = true := isP_mkP right_n
theorem all_riseL {l : List Bs} (h : l.all isP = true) : (riseL l).all isP = true := by
  rw [List.all_eq_true] at h ⊢
  intro x hx
  exact h x ((riseL_mem l x).1 hx)
theorem refsOk_rise {l : List Bs} (h : l.all isP = true) (hl : l.length ≤ 255) : refsOk (riseL l) = true := by
  rw [refsOk, all_riseL h, riseL_eq (riseL_ris l), decide_eq_true (by have := riseL_len l; omega)]
  simp
theorem pths_isP (l : Bs) : (l.map pthN).all isP = true := by
  rw [List.all_eq_true]
  intro x hx
  obtain ⟨b, _, rfl⟩ := List.mem_map.1 hx
  exact pthN_isP b
end Go.Proofs.YtiijiejncefpmaaDoor
