/-
  Lemmas of the claim, part 4: Nj TlY TlZ TlZa TlZb TlZc TlZd It No Np Nq Nr Nt Nu Nv0 Pa Pb Pc Pd Pe Pf Pg Ph Pi Os Qa Qb Qc Qd Qe Qf Qg Ra Qh Qi Qj Qk.
-/
import Derived.Test.YtlljknmojafkoaaGreatDoorMlc
import Derived.Sort.Grow
import Derived.Sort.KeysCollected
import Derived.Lib.RowBridge
import Derived.Lib.SlKeysI
import Derived.Shelf.SlIter.Nil
import Derived.Shelf.SlIterI.Nil
import Derived.Shelf.SortM.Plain
import Derived.Shelf.SortM.SortNone
import Derived.Test.YtlljknmojafkoaaGreatDoorProg
import Derived.Sort.Walk0
set_option linter.unusedVariables false
set_option linter.unusedSimpArgs false
namespace Go.Proofs.YtlljknmojafkoaaGreatDoor
open Go.RowKit TL
theorem ne_len {α : Type} [DecidableEq α] {a b : List α} (h : a.length ≠ b.length) : decide (a = b) = false := decide_eq_false fun e => h (by rw [e])
theorem ne_at {α : Type} [DecidableEq α] {a b : List α} {d : α} {i : Nat} (h : a.getD i d ≠ b.getD i d) : decide (a = b) = false := decide_eq_false fun e => h (by rw [e])
theorem eq_all {α : Type} [DecidableEq α] {a b : List α} {d : α} (hl : a.length = b.length) (h : ∀ j, j < a.length → a.getD j d = b.getD j d) : decide (a = b) = true := by
  refine decide_eq_true (List.ext_getElem hl fun i h1 h2 => ?_)
  have := h i h1
  rwa [List.getD_eq_getElem?_getD, List.getD_eq_getElem?_getD, List.getElem?_eq_getElem h1, List.getElem?_eq_getElem h2] at this
set_option maxRecDepth 8000 in
set_option maxHeartbeats 1000000 in
theorem c_godownref01_Texts_ok (S : TS) (g1 g2 : Tag) (a b : List Bs) (ha : a.length ≤ 1000000) : TCall env 31 [.sl g1 1 (dT a), .sl g2 1 (dT b)] S fun r S' => r = .lit (.bool (decide (a = b))) ∧ S' = S := by
  refine TCall.of 26 [.tmp 4] Tryz.func31 rfl rfl rfl rfl (by kernel_rfl) rfl ?_
  refine TWp.sr fun K0 hK0 => ?_
  simp -implicitDefEqProofs (disch := omega) only [seval, go_sem]
  repeat (with_reducible refine ⟨by first | omega | exact Keep.push _ _ | exact KpL.push _ _, ?_⟩)
  refine hK0 _ _ ?_; try (clear hK0; clear K0)
  refine TWp.seq_k fun K1 hK1 => ?_
  refine TWp.sr fun K2 hK2 => ?_
  simp -implicitDefEqProofs (disch := omega) only [seval, go_sem]
  repeat (with_reducible refine ⟨by first | omega | exact Keep.push _ _ | exact KpL.push _ _, ?_⟩)
  refine hK2 _ _ ?_; try (clear hK2; clear K2)
  refine TWp.cond_k fun K3 hK3 => ?_
  simp -implicitDefEqProofs (disch := omega) only [seval, go_sem]
  refine hK3 _ (fun hb => ?_) (fun hb => ?_) <;> clear hK3 <;> clear K3
  · try (replace hb := of_decide_eq_true hb)
    refine TWp.sr fun K4 hK4 => ?_
    simp -implicitDefEqProofs (disch := omega) only [seval, go_sem]
    repeat (with_reducible refine ⟨by first | omega | exact Keep.push _ _ | exact KpL.push _ _, ?_⟩)
    refine hK4 _ _ ?_; try (clear hK4; clear K4)
    refine TWp.ret ⟨.inr rfl, [_], ⟨rfl, trivial⟩, ?_⟩
    exact ⟨by show TV.lit _ = _; rw [ne_len (by omega)], rfl⟩
  · try (replace hb := of_decide_eq_false hb)
    refine TWp.skip ?_
    refine hK1 _ _ ?_; try (clear hK1; clear K1)
    refine TWp.seq_k fun K5 hK5 => ?_
    refine TWp.sr fun K6 hK6 => ?_
    simp -implicitDefEqProofs (disch := omega) only [seval, go_sem]
    repeat (with_reducible refine ⟨by first | omega | exact Keep.push _ _ | exact KpL.push _ _, ?_⟩)
    refine hK6 _ _ ?_; try (clear hK6; clear K6)
    refine TWp.block ?_
    refine TWp.loop (fun n T S' => ∃ i : Nat, n + i = a.length ∧ T 0 = .sl g1 1 (dT a) ∧ T 1 = .sl g2 1 (dT b) ∧ T 5 = .lit (.int .i64 (i : Int)) ∧ (∀ j, j < i → a.getD j [] = b.getD j []) ∧ S' = S) (a.length) ?_ ?_
    · exact ⟨0, rfl, rfl, rfl, rfl, fun j hj => absurd hj (by omega), rfl⟩
    rintro n T S' ⟨i, hi, h0, h1, h5, he, hS⟩
    have hlen : a.length = b.length := by omega
    refine TWp.seq_k fun K7 hK7 => ?_
    refine TWp.sr fun K8 hK8 => ?_
    simp -implicitDefEqProofs (disch := omega) only [seval, go_sem, h0, h1, h5]
    repeat (with_reducible refine ⟨by first | omega | exact Keep.push _ _ | exact KpL.push _ _, ?_⟩)
    refine hK8 _ _ ?_; try (clear hK8; clear K8)
    refine TWp.cond_k fun K9 hK9 => ?_
    simp -implicitDefEqProofs (disch := omega) only [seval, go_sem, h0, h1, h5]
    refine hK9 _ (fun hb => ?_) (fun hb => ?_) <;> clear hK9 <;> clear K9
    · try (replace hb := of_decide_eq_true hb)
      refine TWp.skip ?_
      refine hK7 _ _ ?_; try (clear hK7; clear K7)
      refine TWp.seq_k fun K10 hK10 => ?_
      refine TWp.block ?_
      refine TWp.sd [(0, 0), (1, 0), (2, 0), (3, 0), (4, 0), (5, 0), (6, 0), (7, 0), (8, 0)] followsN (by kernel_rfl) fun K11 hK11 => ?_
      simp -implicitDefEqProofs (disch := omega) only [seval, go_sem, h0, h1, h5]
      repeat (with_reducible refine ⟨by first | omega | exact Keep.push _ _ | exact KpL.push _ _, ?_⟩)
      refine hK11 _ _ ?_; try (clear hK11; clear K11)
      refine TWp.cond_k fun K12 hK12 => ?_
      simp -implicitDefEqProofs (disch := omega) only [seval, go_sem, h0, h1, h5]
      refine hK12 _ (fun hb => ?_) (fun hb => ?_) <;> clear hK12 <;> clear K12
      · try (replace hb := of_decide_eq_true hb)
        refine TWp.sr fun K13 hK13 => ?_
        simp -implicitDefEqProofs (disch := omega) only [seval, go_sem, h0, h1, h5]
        repeat (with_reducible refine ⟨by first | omega | exact Keep.push _ _ | exact KpL.push _ _, ?_⟩)
        refine hK13 _ _ ?_; try (clear hK13; clear K13)
        refine TWp.ret ⟨.inr rfl, [_], ⟨rfl, trivial⟩, ?_⟩
        exact ⟨by show TV.lit _ = _; rw [ne_at (d := []) (i := i) hb], hS⟩
      · try (replace hb := of_decide_eq_false hb)
        refine TWp.skip ?_
        refine hK10 _ _ ?_; try (clear hK10; clear K10)
        refine TWp.rk fun K14 hK14 => ?_
        simp -implicitDefEqProofs (disch := omega) only [seval, go_sem, h0, h1, h5]
        repeat (with_reducible refine ⟨by first | omega | exact Keep.push _ _ | exact KpL.push _ _, ?_⟩)
        refine hK14 _ _ ?_; try (clear hK14; clear K14)
        exact ⟨n - 1, by omega, i + 1, by omega, h0, h1, rfl, fun j hj => by
          rcases Nat.lt_succ_iff_lt_or_eq.1 hj with h | h
          · exact he j h
          · rw [h]; exact Classical.byContradiction hb, hS⟩
    · try (replace hb := of_decide_eq_false hb)
      refine TWp.exit ?_
      refine hK5 _ _ ?_; try (clear hK5; clear K5)
      refine TWp.sr fun K15 hK15 => ?_
      simp -implicitDefEqProofs (disch := omega) only [seval, go_sem, h0, h1, h5]
      repeat (with_reducible refine ⟨by first | omega | exact Keep.push _ _ | exact KpL.push _ _, ?_⟩)
      refine hK15 _ _ ?_; try (clear hK15; clear K15)
      refine TWp.ret ⟨.inr rfl, [_], ⟨rfl, trivial⟩, ?_⟩
      exact ⟨by show TV.lit _ = _; rw [eq_all (d := []) hlen fun j hj => he j (by omega)], hS⟩
theorem c_godownref01_Texts {S : TS} {g1 g2 : Tag} {a b : List Bs} {K : TV → TS → Prop} (hK : K (.lit (.bool (decide (a = b)))) S) (ha : a.length ≤ 1000000 := by omega) : TCall env 31 [.sl g1 1 (dT a), .sl g2 1 (dT b)] S K :=
  (c_godownref01_Texts_ok S g1 g2 a b ha).mono fun t S' ⟨h1, h2⟩ => by rw [h1, h2]; exact hK
end Go.Proofs.YtlljknmojafkoaaGreatDoor
namespace Go.Proofs.YtlljknmojafkoaaGreatDoor.TL
open Go.RowKit
/-- What 'simp' does not look into. -/
inductive Pin {α : Type} (a : α) : Type
  | mk
/-- Both of two orders. -/
def twoK (E : Env) (N : Nat) (ops : Array Oper) (l1 l2 : List Ent2) (K : (Nat → TV) → TS → Prop) : (Nat → TV) → TS → Prop := fun T S => evD E N ops l1 K T S ∧ evD E N ops l2 K T S
def W (E : Env) (N : Nat) : Code → (Exit → (Nat → TV) → TS → Prop) → (Nat → TV) → TS → Prop
  | .skip, Q, T, S => Q .normal T S
  | .label _, Q, T, S => Q .normal T S
  | .exit id, Q, T, S => Q (.exit id) T S
  | .ret, Q, T, S => Q .ret T S
  | .seq a b, Q, T, S => W E N a (thenT (fun T S => W E N b Q T S) Q) T S
  | .cond o a b, Q, T, S => ∃ x, evO E T o = .lit (.bool x) ∧ (x = true → W E N a Q T S) ∧ (x = false → W E N b Q T S)
  | .block id c, Q, T, S => W E N c (blockT id Q) T S
  | .region _ ops true, Q, T, S => E.P.follows .mixedOrders = true ∧ ((∃ l, chkD ops l = true ∧ evD E N ops l (fun T S => Q .normal T S) T S) ∨ ∃ pre t1 t2 i j a b, (a ≤ 1 ∧ b ≤ 1) ∧ chkD5 ops (pre ++ (i, 10 + 4 * j + a) :: t1) = true ∧ chkD5 ops (pre ++ (j, 10 + 4 * i + b) :: t2) = true ∧ (pre ++ t1 ++ t2).all (fun p => okK p.2) = true ∧ evD E N ops pre (twoK E N ops ((i, 1 + a) :: t1) ((j, 1 + b) :: t2) fun T S => Q .normal T S) T S)
  | .region _ ops false, Q, T, S => evL E N ops ops.toList (fun T S => Q .normal T S) T S
  | c, Q, T, S => TWp E N c Q T S
theorem W_ok {E : Env} {N : Nat} : ∀ {c : Code} {Q : Exit → (Nat → TV) → TS → Prop} {T : Nat → TV} {S : TS}, W E N c Q T S → TWp E N c Q T S
  | .skip, _, _, _, h => .skip h
  | .label _, _, _, _, h => .label h
  | .exit _, _, _, _, h => .exit h
  | .ret, _, _, _, h => .ret h
  | .seq a b, Q, T, S, h => .seq ((W_ok (c := a) h).mono fun e T' S' hq => by
      cases e with
      | normal => exact W_ok (c := b) hq
      | _ => exact hq)
  | .cond o a b, Q, T, S, h => by
      obtain ⟨x, h1, h2, h3⟩ := h
      exact .cond h1 (fun hx => W_ok (h2 hx)) (fun hx => W_ok (h3 hx))
  | .block id c, Q, T, S, h => .block (W_ok (c := c) h)
  | .region _ ops true, Q, T, S, h => by
      obtain ⟨hm, ⟨l, h1, h2⟩ | ⟨pre, t1, t2, i, j, a, b, hab, h1, h2, h3, h4⟩⟩ := h
      · exact .draw hm l h1 h2
      · exact .draw2 hm pre t1 t2 i j a b hab.1 hab.2 h1 h2 h3 h4
  | .region _ ops false, Q, T, S, h => .reg h
  | .loop _, _, _, _, h => h
  | .rangeFunc .., _, _, _, h => h
  | .scope _, _, _, _, h => h
  | .goto _, _, _, _, h => h
  | .refuse _, _, _, _, h => h
section
variable {E : Env} {N : Nat}
def seqK (E : Env) (N : Nat) (b : Code) (_ : Pin b) (Q : Exit → (Nat → TV) → TS → Prop) : Exit → (Nat → TV) → TS → Prop := thenT (fun T S => W E N b Q T S) Q
def blkK (id : Nat) (Q : Exit → (Nat → TV) → TS → Prop) : Exit → (Nat → TV) → TS → Prop := blockT id Q
def nrmK (Q : Exit → (Nat → TV) → TS → Prop) : (Nat → TV) → TS → Prop := fun T S => Q .normal T S
def cdK (x : TV) (E : Env) (N : Nat) (a : Code) (_ : Pin a) (b : Code) (_ : Pin b) (Q : Exit → (Nat → TV) → TS → Prop) (T : Nat → TV) (_ : Pin T) (S : TS) : Prop := ∃ y, x = .lit (.bool y) ∧ (y = true → W E N a Q T S) ∧ (y = false → W E N b Q T S)
def drW (E : Env) (N : Nat) (ops : Array Oper) (_ : Pin ops) (K : (Nat → TV) → TS → Prop) (T : Nat → TV) (_ : Pin T) (S : TS) : Prop := E.P.follows .mixedOrders = true ∧ ((∃ l, chkD ops l = true ∧ evD E N ops l K T S) ∨ ∃ pre t1 t2 i j a b, (a ≤ 1 ∧ b ≤ 1) ∧ chkD5 ops (pre ++ (i, 10 + 4 * j + a) :: t1) = true ∧ chkD5 ops (pre ++ (j, 10 + 4 * i + b) :: t2) = true ∧ (pre ++ t1 ++ t2).all (fun p => okK p.2) = true ∧ evD E N ops pre (twoK E N ops ((i, 1 + a) :: t1) ((j, 1 + b) :: t2) K) T S)
def loW (E : Env) (N : Nat) (c : Code) (_ : Pin c) (Q : Exit → (Nat → TV) → TS → Prop) (T : Nat → TV) (S : TS) : Prop := TWp E N (.loop c) Q T S
abbrev nextK (I : Nat → (Nat → TV) → TS → Prop) (n : Nat) (T : Nat → TV) (S : TS) : Prop := ∃ m, m < n ∧ I m T S
def loopK (I : Nat → (Nat → TV) → TS → Prop) (n : Nat) (Q : Exit → (Nat → TV) → TS → Prop) : Exit → (Nat → TV) → TS → Prop := thenT (fun T S => nextK I n T S) Q
abbrev endR (R : TV → TS → Prop) (t : TV) (S : TS) : Prop := R t S
def endK (R : TV → TS → Prop) (S : TS) (ts : List TV) : Prop := R (tupT ts) S
def resT (E : Env) (T : Nat → TV) (S : TS) : List ResultVar → (List TV → Prop) → Prop
  | [], K => K []
  | .tmp i :: rs, K => resT E T S rs fun ts => K (T i :: ts)
  | .cell i ty :: rs, K => ∃ t, resOne E T S (.cell i ty) t ∧ resT E T S rs fun ts => K (t :: ts)
def finK (E : Env) (rs : List ResultVar) (R : TV → TS → Prop) : Exit → (Nat → TV) → TS → Prop := fun e T S => (e = .normal ∨ e = .ret) ∧ resT E T S rs (endK R S)
theorem resT_ok {T : Nat → TV} {S : TS} : ∀ {rs : List ResultVar} {K : List TV → Prop}, resT E T S rs K → ∃ ts, resAll E T S rs ts ∧ K ts
  | [], _, h => ⟨[], trivial, h⟩
  | .tmp i :: rs, K, h => by
    obtain ⟨ts, h1, h2⟩ := resT_ok (rs := rs) h
    exact ⟨T i :: ts, ⟨rfl, h1⟩, h2⟩
  | .cell i ty :: rs, K, h => by
    obtain ⟨t, h0, h⟩ := h
    obtain ⟨ts, h1, h2⟩ := resT_ok (rs := rs) h
    exact ⟨t :: ts, ⟨h0, h1⟩, h2⟩
theorem TCall.w {f : FuncId} {fn : Func} {body : Code} {args : List TV} {S : TS} {R : TV → TS → Prop} (N : Nat) (rs : List ResultVar) (hf : E.P.funcs[f]? = some fn) (hb : fn.body = some body) (hname : (fn.name == "runtime.NumGoroutine") = false)
    (hN : args.length + (fn.ntmps - args.length) = N) (hrs : fn.results.toList = rs) (hin : codeInb N body = true) (hres : rs.all (resInb N) = true)
    (h : W E N body (finK E rs R) (argsT args) S) : TCall E f args S R :=
  .of N rs hf hb hname hN hrs hin hres ((W_ok h).mono fun _ _ _ ⟨h1, h2⟩ => ⟨h1, resT_ok h2⟩)
variable {Q : Exit → (Nat → TV) → TS → Prop} {T : Nat → TV} {S : TS}
theorem W_skip : W E N .skip Q T S = Q .normal T S := rfl
theorem W_label (l : Nat) : W E N (.label l) Q T S = Q .normal T S := rfl
theorem W_exit (i : Nat) : W E N (.exit i) Q T S = Q (.exit i) T S := rfl
theorem W_ret : W E N .ret Q T S = Q .ret T S := rfl
theorem W_seq (a b : Code) : W E N (.seq a b) Q T S = W E N a (seqK E N b .mk Q) T S := rfl
theorem W_cond (o : Operand) (a b : Code) : W E N (.cond o a b) Q T S = cdK (evO E T o) E N a .mk b .mk Q T .mk S := rfl
theorem W_block (i : Nat) (c : Code) : W E N (.block i c) Q T S = W E N c (blkK i Q) T S := rfl
theorem W_draw (i : Nat) (ops : Array Oper) : W E N (.region i ops true) Q T S = drW E N ops .mk (nrmK Q) T .mk S := rfl
theorem W_region (i : Nat) (ops : Array Oper) : W E N (.region i ops false) Q T S = evL E N ops ops.toList (nrmK Q) T S := rfl
theorem W_loop (c : Code) : W E N (.loop c) Q T S = loW E N c .mk Q T S := rfl
theorem seqK_n {b : Code} {p : Pin b} : seqK E N b p Q .normal T S = W E N b Q T S := rfl
theorem seqK_r {b : Code} {p : Pin b} : seqK E N b p Q .ret T S = Q .ret T S := rfl
theorem seqK_e {b : Code} {p : Pin b} {i : Nat} : seqK E N b p Q (.exit i) T S = Q (.exit i) T S := rfl
theorem blkK_n {j : Nat} : blkK j Q .normal T S = Q .normal T S := rfl
theorem blkK_r {j : Nat} : blkK j Q .ret T S = Q .ret T S := rfl
theorem blkK_e {i j : Nat} : blkK j Q (.exit i) T S = if i = j then Q .normal T S else Q (.exit i) T S := rfl
theorem nrmK_app : nrmK Q T S = Q .normal T S := rfl
theorem loopK_n {I : Nat → (Nat → TV) → TS → Prop} {n : Nat} : loopK I n Q .normal T S = nextK I n T S := rfl
theorem loopK_r {I : Nat → (Nat → TV) → TS → Prop} {n : Nat} : loopK I n Q .ret T S = Q .ret T S := rfl
theorem loopK_e {I : Nat → (Nat → TV) → TS → Prop} {n i : Nat} : loopK I n Q (.exit i) T S = Q (.exit i) T S := rfl
theorem finK_n {rs : List ResultVar} {R : TV → TS → Prop} : finK E rs R .normal T S = resT E T S rs (endK R S) := by simp [finK]
theorem finK_r {rs : List ResultVar} {R : TV → TS → Prop} : finK E rs R .ret T S = resT E T S rs (endK R S) := by simp [finK]
theorem resT_nil {K : List TV → Prop} : resT E T S [] K = K [] := rfl
theorem resT_tmp {i : Nat} {rs : List ResultVar} {K : List TV → Prop} : resT E T S (.tmp i :: rs) K = resT E T S rs fun ts => K (T i :: ts) := rfl
theorem resT_cell {i : Nat} {ty : TypeId} {rs : List ResultVar} {K : List TV → Prop} : resT E T S (.cell i ty :: rs) K = ∃ t, resOne E T S (.cell i ty) t ∧ resT E T S rs fun ts => K (t :: ts) := rfl
theorem endK_1 {R : TV → TS → Prop} {t : TV} : endK R S [t] = endR R t S := rfl
theorem endK_0 {R : TV → TS → Prop} : endK R S [] = endR R (.tup []) S := rfl
theorem endK_2 {R : TV → TS → Prop} {t u : TV} {ts : List TV} : endK R S (t :: u :: ts) = endR R (.tup (t :: u :: ts)) S := rfl
section
variable {a b : Code} {pa : Pin a} {pb : Pin b} {pT : Pin T}
theorem cdK_t : cdK (.lit (.bool true)) E N a pa b pb Q T pT S = W E N a Q T S := by
  unfold cdK
  refine propext ⟨fun ⟨y, h1, h2, h3⟩ => ?_, fun h => ⟨true, rfl, (fun _ => h), (fun h => by cases h)⟩⟩
  injection h1 with h1; injection h1 with h1; exact h2 h1.symm
theorem cdK_f : cdK (.lit (.bool false)) E N a pa b pb Q T pT S = W E N b Q T S := by
  unfold cdK
  refine propext ⟨fun ⟨y, h1, h2, h3⟩ => ?_, fun h => ⟨false, rfl, (fun h => by cases h), fun _ => h⟩⟩
  injection h1 with h1; injection h1 with h1; exact h3 h1.symm
theorem cdK_d {p : Prop} {hd : Decidable p} (ht : p → W E N a Q T S) (hf : ¬ p → W E N b Q T S) : cdK (.lit (.bool (@decide p hd))) E N a pa b pb Q T pT S := ⟨_, rfl, fun h => ht (of_decide_eq_true h), fun h => hf (of_decide_eq_false h)⟩
end
theorem drW_at {ops : Array Oper} {p : Pin ops} {pT : Pin T} {K : (Nat → TV) → TS → Prop} (l : List Ent2) (hm : E.P.follows .mixedOrders = true) (hc : chkD ops l = true) (h : evD E N ops l K T S) : drW E N ops p K T pT S := ⟨hm, .inl ⟨l, hc, h⟩⟩
theorem loW_inv {c : Code} {p : Pin c} (I : Nat → (Nat → TV) → TS → Prop) (n : Nat) (h0 : I n T S) (round : ∀ n T S, I n T S → W E N c (loopK I n Q) T S) : loW E N c p Q T S :=
  .loop I n h0 fun n T S h => (W_ok (round n T S h)).mono fun e _ _ hq => by cases e <;> exact hq
def idQ : Nat → Nat → List Ent2
  | 0, _ => []
  | n + 1, i => (i, 0) :: idQ n (i + 1)
/-- A side condition that 'omega' shows. -/
theorem and_side {p q : Prop} (h : p) : (p ∧ q) = q := propext ⟨fun h => h.2, fun h' => ⟨h, h'⟩⟩
theorem dec_t {p : Prop} {hd : Decidable p} (h : p) : @decide p hd = true := decide_eq_true h
theorem dec_f {p : Prop} {hd : Decidable p} (h : ¬ p) : @decide p hd = false := decide_eq_false h
end
theorem tvBin_pp (P : Program) (op : BinOp) (ty : TypeId) (a b : Option Addr) : tvBin P op ty (.pointer a) (.pointer b) = none := rfl
theorem tvBin_mm (P : Program) (op : BinOp) (ty : TypeId) (a b : Option Nat) : tvBin P op ty (.map a) (.map b) = none := rfl
def bbT (d : Option TypeDesc) (op : BinOp) (a b : Bool) : Option Value :=
  match d, op with
  | some .bool, .eql => some (.bool (decide (a = b)))
  | some .bool, .neq => some (.bool (decide (a ≠ b)))
  | _, _ => none
theorem tvBin_bb (P : Program) (op : BinOp) (ty : TypeId) (a b : Bool) : tvBin P op ty (.bool a) (.bool b) = bbT (P.underlying ty) op a b := by
  change (match P.underlying ty, op with | some .bool, .eql => some (Value.bool (a == b)) | some .bool, .neq => some (.bool !(a == b)) | _, _ => none) = bbT (P.underlying ty) op a b
  generalize P.underlying ty = d
  unfold bbT
  cases a <;> cases b <;> rfl
theorem bbT_e (a b : Bool) : bbT (some .bool) .eql a b = some (.bool (decide (a = b))) := rfl
theorem bbT_n (a b : Bool) : bbT (some .bool) .neq a b = some (.bool (decide (a ≠ b))) := rfl
attribute [go_sem] tvBin_bb bbT_e bbT_n
attribute [go_sem] tvBin_pp tvBin_mm ptrEq nilB isEq not_false_eq_true
/-- All but some objects are as they were. -/
structure Fr (S S' : TS) (L : List Nat) : Prop where
  n : S.n ≤ S'.n
  o : ∀ id, id < S.n → id ∉ L → S'.objs id = S.objs id
theorem Fr.refl (S : TS) (L : List Nat) : Fr S S L := ⟨Nat.le_refl _, fun _ _ _ => rfl⟩
theorem Fr.push {S S' : TS} {L : List Nat} (h : Fr S S' L) (o : TObj) : Fr S (S'.push o) L :=
  ⟨Nat.le_succ_of_le h.n, fun id hi hl => by rw [TS.push_objs, if_neg (by have := h.n; omega)]; exact h.o id hi hl⟩
theorem Fr.set {S S' : TS} {L : List Nat} (h : Fr S S' L) {id : Nat} (hid : id ∈ L ∨ S.n ≤ id) (o : TObj) : Fr S (S'.set id o) L :=
  ⟨h.n, fun j hj hl => by rw [TS.set_objs, if_neg (fun e => by subst e; rcases hid with h | h; exact hl h; omega)]; exact h.o j hj hl⟩
theorem Fr.trans {S S1 S2 : TS} {L L' : List Nat} (h : Fr S S1 L) (k : Fr S1 S2 L') (hl : ∀ x ∈ L', x ∈ L ∨ S.n ≤ x) : Fr S S2 L :=
  ⟨Nat.le_trans h.n k.n, fun id hi hx => (k.o id (Nat.lt_of_lt_of_le hi h.n) fun hm => by rcases hl id hm with h | h; exact hx h; omega).trans (h.o id hi hx)⟩
theorem Fr.keep {S S' : TS} (h : Fr S S' []) : Keep S S' := ⟨h.n, fun id hi => h.o id hi (by simp)⟩
theorem Fr.of {S S' : TS} (h : Keep S S') (L : List Nat) : Fr S S' L := ⟨h.1, fun id hi _ => h.2 id hi⟩
section
variable {E : Env} {N : Nat} {Q : Exit → (Nat → TV) → TS → Prop} {T : Nat → TV} {S : TS}
theorem loW.asRow (i : Nat) {s : Nat} (s' : Nat) {xs : List D} {c : Code} {p : Pin c} (h : T i = .sl .full s xs) (hs : xs = [] ∨ s' = s) (hw : loW E N c p Q (upd T i (.sl (.own S.n) s' xs)) (S.push .lin)) : loW E N c p Q T S := TWp.asRow i s' h hs hw
theorem loW.asBuf (i e : Nat) {s : Nat} (s' : Nat) {c : Code} {p : Pin c} (h : T i = .sl .full s []) (hw : loW E N c p Q (upd T i (.vs S.n 0 s' 0)) (S.push (.cells e []))) : loW E N c p Q T S := TWp.asBuf i e s' h hw
/-- An object's cells read in another way. -/
theorem Rel.reread {w0 : World} {c : Cx} {w : World} (h : Rel w0 c S w) {id e : Nat} {cs cs' : List TV} (hobj : S.objs id = .cells e cs) (hl : cs'.length = cs.length)
    (hr : ∀ (j : Nat) x x' v, cs[j]? = some x → cs'[j]? = some x' → RdT c w x v → RdT c w x' v) : Rel w0 c (S.set id (.cells e cs')) w := by
  refine ⟨h.below, h.dom, fun i hi => ?_, fun i j b e1 e2 hi hj li lj gi gj => ?_, h.cell, fun i hi => ?_, h.cn⟩
  · rw [TS.set_objs]
    split
    · rename_i hii
      subst hii
      have ho := h.obj i hi
      rw [hobj] at ho
      refine ⟨fun hn => List.eq_nil_of_length_eq_zero (by rw [hl, ho.1 hn]; rfl), fun b z hz => ?_⟩
      obtain ⟨g2, ⟨arr, fr, g3, gz, gl⟩, gf, g4, g5⟩ := ho.2 b z hz
      refine ⟨g2, ⟨arr, fr, g3, gz, by rw [hl]; exact gl⟩, gf, fun j x' hx' => ?_, g5⟩
      have hj : j < cs.length := by rw [← hl]; exact (List.getElem?_eq_some_iff.1 hx').1
      obtain ⟨v, k1, k3⟩ := g4 j _ (List.getElem?_eq_getElem hj)
      exact ⟨v, k1, hr j _ _ v (List.getElem?_eq_getElem hj) hx' k3⟩
    · exact h.obj i hi
  · have key : ∀ k, ((S.set id (.cells e cs')).objs k).live = true → (S.objs k).live = true := by
      intro k hk
      rw [TS.set_objs] at hk
      split at hk
      · rename_i hki; rw [hki, hobj]; rfl
      · exact hk
    exact h.inj i j b e1 e2 hi hj (key i li) (key j lj) gi gj
  · rw [TS.set_objs, if_neg]
    · exact h.wf i hi
    · intro he
      subst he
      have := h.wf i hi
      rw [hobj] at this; cases this
/-- An empty slice in an object's cell: a row that may be written. -/
theorem Rel.bufCell {w0 : World} {c : Cx} {w : World} (h : Rel w0 c S w) {id e s : Nat} {cs : List TV} (e2 s' j : Nat) (hobj : S.objs id = .cells e cs) (hj : cs[j]? = some (.sl .full s [])) :
    ∃ c', Rel w0 c' ((S.push (.cells e2 [])).set id (.cells e (cs.set j (.vs S.n 0 s' 0)))) w ∧ Mono c w c' w := by
  obtain ⟨c', h1, h2, h3, h4⟩ := h.virtual' (.cells e2 []) (.inr ⟨e2, rfl⟩)
  have hid : id < S.n := h.live_lt (by rw [hobj]; rfl)
  refine ⟨c', h1.reread (by rw [TS.push_objs, if_neg (by omega)]; exact hobj) (by simp) fun q x x' v hx hx' hv => ?_, h2⟩
  rw [List.getElem?_set] at hx'
  split at hx'
  · rename_i hjq
    subst hjq
    rw [hj] at hx
    cases hx
    split at hx'
    · cases hx'
      cases hv with
      | sl _ _ _ _ q1 q2 =>
        have hlt : S.n < c'.n := by omega
        cases q1 with
        | nil _ a cap => obtain rfl : cap = 0 := q2; exact .vsN _ _ _ _ hlt
        | sl _ _ b o n cap hn hc hm _ =>
          have hn : 0 = n := hn
          subst hn
          obtain rfl : cap = 0 := q2
          exact .vsN _ _ _ _ hlt
    · cases hx'
  · rw [hx] at hx'; cases hx'; exact hv
/-- .. or an own row that may be appended to. -/
theorem Rel.rowCell {w0 : World} {c : Cx} {w : World} (h : Rel w0 c S w) {id e s : Nat} {cs : List TV} (s' j : Nat) (hobj : S.objs id = .cells e cs) (hj : cs[j]? = some (.sl .full s [])) :
    ∃ c', Rel w0 c' ((S.push .lin).set id (.cells e (cs.set j (.sl (.own S.n) s' [])))) w ∧ Mono c w c' w := by
  obtain ⟨c', h1, h2, h3⟩ := h.virtual
  have hid : id < S.n := h.live_lt (by rw [hobj]; rfl)
  refine ⟨c', h1.reread (by rw [TS.push_objs, if_neg (by omega)]; exact hobj) (by simp) fun q x x' v hx hx' hv => ?_, h2⟩
  rw [List.getElem?_set] at hx'
  split at hx'
  · rename_i hjq
    subst hjq
    rw [hj] at hx
    cases hx
    split at hx'
    · cases hx'
      cases hv with
      | sl _ _ _ _ q1 q2 =>
        have hlt : S.n < c'.n := by rw [h1.cn, TS.push_n]; omega
        refine .sl _ _ _ _ (q1.nil_any s') ?_
        cases v with
        | slice a n cap => exact ⟨hlt, .inl q2⟩
        | _ => exact q2
    · cases hx'
  · rw [hx] at hx'; cases hx'; exact hv
theorem loW.ghost {S' : TS} {c : Code} {p : Pin c} (h : ∀ w0 c w, Ok E w0 c S w → ∃ c', Rel w0 c' S' w ∧ Mono c w c' w) (hw : loW E N c p Q T S') : loW E N c p Q T S :=
  TWp.ghost (fun w0 c w hk => let ⟨c', h1, h2⟩ := h w0 c w hk; ⟨c', h1, h2, fun _ _ hv => hv.step h2⟩) hw
theorem TCall.ghost {f : FuncId} {args : List TV} {S' : TS} {R : TV → TS → Prop} (h : ∀ w0 c w, Ok E w0 c S w → ∃ c', Rel w0 c' S' w ∧ Mono c w c' w) (hw : TCall E f args S' R) : TCall E f args S R := by
  intro w0 c w vs hk hv
  obtain ⟨c', h1, h2⟩ := h w0 c w hk
  exact (hw w0 c' w vs (hk.step h1 h2) ⟨hv.size, fun j t v a b => (hv.rd j t v a b).step h2⟩).mono fun v w' ⟨t, c2, S2, g1, g2, g3, g4⟩ => ⟨t, c2, S2, g1, h2.trans g2, g3, g4⟩
/-- A call's own row, or nothing: a row. -/
theorem TCall.rowE {f : FuncId} {args : List TV} {S : TS} {s : Nat} {xs : List D} (h : TCall E f args S fun t S' => ((∃ k, t = .sl (.own k) s xs ∧ S.n ≤ k ∧ S'.objs k = .lin) ∨ (xs = [] ∧ ∃ s0, t = .sl .full s0 [])) ∧ Keep S S') : TCall E f args S fun t S' => t = .sl (.own S.n) s xs ∧ S' = S.push .lin := by
  intro w0 c w vs hk hv
  refine (h w0 c w vs hk hv).mono ?_
  rintro v w' ⟨t, c1, S1, h1, h2, h3, h4, h5⟩
  rcases h4 with ⟨k, rfl, hk2, ho⟩ | ⟨rfl, s0, rfl⟩
  · obtain ⟨g1, g2⟩ := hk.forget h1 h2 (.row hk.rel.wf h5 hk2 ho)
    exact ⟨_, _, _, g1, g2, (Ren.sl 0 k s xs rfl).ok (newCx_ok _ _ _) h3, rfl, rfl⟩
  · obtain ⟨g1, g2⟩ := hk.forget h1 h2 (.none hk.rel.wf h5)
    obtain ⟨c', r1, r2, r3⟩ := g1.rel.virtual
    refine ⟨_, c', _, g1.step r1 r2, g2.trans r2, ?_, rfl, rfl⟩
    have h6 := (Ren.sl0 (n := S.n) (L := []) .full s0 [] (.inr (.inl rfl))).ok (newCx_ok _ _ _) h3
    cases h6 with
    | sl _ _ _ _ q1 q2 =>
      refine .sl _ _ _ _ ((q1.nil_any s).step r2) ?_
      cases v with
      | slice a n cap => exact ⟨by rw [r1.cn, TS.push_n]; omega, .inl q2⟩
      | _ => exact q2
end
attribute [go_sem ↓] W_skip W_label W_exit W_ret W_seq W_cond W_block W_draw W_region W_loop seqK_n seqK_r seqK_e blkK_n blkK_r blkK_e nrmK_app loopK_n loopK_r loopK_e finK_n finK_r resT_nil resT_tmp resT_cell endK_0 endK_1 endK_2 idQ
attribute [go_sem] cdK_t cdK_f and_side dec_t dec_f
end Go.Proofs.YtlljknmojafkoaaGreatDoor.TL
namespace Go.Proofs.YtlljknmojafkoaaGreatDoor.TL
open Go.RowKit Go.MapKept
/-- A kind of keys: how they stand in a map. -/
structure KK (α : Type) where
  v : α → Value
  d : TypeDesc
  key : ∀ a, isKeyB d (v a) = true
  eq : ∀ a b, keyEq (v a) (v b) = true ↔ a = b
def kS : KK Bs := ⟨fun s => .string (st s), .string, fun _ => rfl, fun a b => by
  show (st a == st b) = true ↔ a = b
  rw [← st_inj (a := a)]
  exact ⟨fun h => by simpa [bytes_beq] using h, fun h => by rw [h]; simp [bytes_beq]⟩⟩
section
variable {α : Type} (κ : KK α)
/-- What a map holds at a key. -/
def getM (es : Ents) (a : α) : Option TV := (findT (κ.v a) es).map (valAt es)
/-- A map whose keys are such, each once. -/
structure MapOk (es : Ents) (clock : Nat) (l : List α) : Prop where
  keys : es.map (·.1) = l.map κ.v
  nd : l.Nodup
  born : ∀ e ∈ es, e.2.1 < clock
  bnd : (es.map (·.2.1)).Nodup
theorem getM_nil (a : α) : getM κ [] a = none := rfl
theorem look_get (es : Ents) (a : α) (z : TV) : lookT (κ.v a) es z = (getM κ es a).getD z := by
  unfold lookT getM
  cases findT (κ.v a) es <;> rfl
theorem found_get (es : Ents) (a : α) : (findT (κ.v a) es).isSome = (getM κ es a).isSome := by
  unfold getM
  cases findT (κ.v a) es <;> rfl
theorem findT_some {es : Ents} {k : Value} {j : Nat} : findT k es = some j ↔ ∃ h : j < es.length, keyEq k es[j].1 = true ∧ ∀ i, (hi : i < j) → keyEq k (es[i]'(by omega)).1 = false := by
  unfold findT
  rw [List.findIdx?_eq_some_iff_getElem]
  constructor
  · rintro ⟨h1, h2, h3⟩
    exact ⟨h1, h2, fun i hi => by have := h3 i hi; simpa using this⟩
  · rintro ⟨h1, h2, h3⟩
    exact ⟨h1, h2, fun i hi => by have := h3 i hi; simpa using this⟩
variable {κ} {es : Ents} {clock : Nat} {l : List α}
theorem MapOk.len (h : MapOk κ es clock l) : es.length = l.length := by have := congrArg List.length h.keys; simpa using this
theorem MapOk.ok (h : MapOk κ es clock l) : keysOk κ.d es = true := by
  unfold keysOk
  rw [List.all_eq_true]
  intro e he
  have : e.1 ∈ l.map κ.v := by rw [← h.keys]; exact List.mem_map.2 ⟨e, he, rfl⟩
  obtain ⟨a, _, ha⟩ := List.mem_map.1 this
  rw [← ha]; exact κ.key a
theorem MapOk.at_ (h : MapOk κ es clock l) {j : Nat} (hj : j < es.length) : es[j].1 = κ.v (l[j]'(by rw [← h.len]; exact hj)) := by
  have h1 : (es.map (·.1))[j]? = (l.map κ.v)[j]? := by rw [h.keys]
  rw [List.getElem?_map, List.getElem?_map, List.getElem?_eq_getElem hj, List.getElem?_eq_getElem (by rw [← h.len]; exact hj)] at h1
  simpa using h1
theorem MapOk.find (h : MapOk κ es clock l) {a : α} {j : Nat} : findT (κ.v a) es = some j ↔ l[j]? = some a := by
  rw [findT_some]
  constructor
  · rintro ⟨h1, h2, _⟩
    rw [h.at_ h1, κ.eq] at h2
    rw [List.getElem?_eq_getElem (by rw [← h.len]; exact h1), h2]
  · intro hj
    obtain ⟨h1, h2⟩ := List.getElem?_eq_some_iff.1 hj
    have hl : j < es.length := by rw [h.len]; exact h1
    refine ⟨hl, by rw [h.at_ hl, h2]; exact (κ.eq a a).2 rfl, fun i hi => ?_⟩
    cases hk : keyEq (κ.v a) (es[i]'(by omega)).1 with
    | false => rfl
    | true =>
      rw [h.at_ (by omega), κ.eq] at hk
      have := (List.getElem_inj (h₀ := by omega) (h₁ := h1) h.nd).1 (hk.symm.trans h2.symm)
      omega
theorem MapOk.mem (h : MapOk κ es clock l) (a : α) : (getM κ es a).isSome = true ↔ a ∈ l := by
  unfold getM
  rw [Option.isSome_map, List.mem_iff_getElem?]
  constructor
  · intro hh
    obtain ⟨j, hj⟩ := Option.isSome_iff_exists.1 hh
    exact ⟨j, h.find.1 hj⟩
  · rintro ⟨j, hj⟩
    rw [h.find.2 hj]; rfl
theorem MapOk.nil : MapOk κ [] 0 [] := ⟨rfl, List.nodup_nil, (fun e h => by cases h), List.nodup_nil⟩
theorem MapOk.no (h : MapOk κ es clock l) {a : α} (ha : a ∉ l) : findT (κ.v a) es = none := by
  cases hf : findT (κ.v a) es with
  | none => rfl
  | some j => exact absurd (List.mem_of_getElem? (h.find.1 hf)) ha
/-- A key is put. -/
theorem MapOk.put_old (h : MapOk κ es clock l) {a : α} (ha : a ∈ l) (t : TV) : MapOk κ (putE (κ.v a) t es clock) (clkE (κ.v a) es clock) l := by
  obtain ⟨j, hj⟩ := List.mem_iff_getElem?.1 ha
  have hf := h.find.2 hj
  have hjl : j < es.length := findT_lt hf
  unfold putE clkE
  rw [hf]
  have hk : (es.modify j fun e => (κ.v a, e.2.1, t)).map (·.1) = es.map (·.1) := by
    apply List.ext_getElem?
    intro i
    rw [List.getElem?_map, List.getElem?_map, List.getElem?_modify]
    by_cases hij : j = i
    · subst hij
      rw [List.getElem?_eq_getElem hjl]
      have := h.at_ hjl
      obtain ⟨h1, h2⟩ := List.getElem?_eq_some_iff.1 hj
      simp [this, h2]
    · simp [hij]
  have hb : (es.modify j fun e => (κ.v a, e.2.1, t)).map (·.2.1) = es.map (·.2.1) := by
    apply List.ext_getElem?
    intro i
    rw [List.getElem?_map, List.getElem?_map, List.getElem?_modify]
    by_cases hij : j = i
    · subst hij; rw [List.getElem?_eq_getElem hjl]; simp
    · simp [hij]
  refine ⟨hk.trans h.keys, h.nd, fun e he => ?_, by rw [hb]; exact h.bnd⟩
  have : e.2.1 ∈ (es.modify j fun e => (κ.v a, e.2.1, t)).map (·.2.1) := List.mem_map.2 ⟨e, he, rfl⟩
  rw [hb] at this
  obtain ⟨e', he', hee⟩ := List.mem_map.1 this
  rw [← hee]; exact h.born e' he'
theorem MapOk.put_new (h : MapOk κ es clock l) {a : α} (ha : a ∉ l) (t : TV) : MapOk κ (putE (κ.v a) t es clock) (clkE (κ.v a) es clock) (l ++ [a]) := by
  unfold putE clkE
  rw [h.no ha]
  refine ⟨by simp [h.keys], by rw [List.nodup_append]; exact ⟨h.nd, by simp, fun x hx y hy => by simp at hy; subst hy; exact fun e => ha (by rw [← e]; exact hx)⟩, fun e he => ?_, ?_⟩
  · rcases List.mem_append.1 he with he | he
    · have := h.born e he; show e.2.1 < clock + 1; omega
    · simp at he; subst he; exact Nat.lt_succ_self _
  · show ((es ++ [(κ.v a, clock, t)]).map (·.2.1)).Nodup
    rw [List.map_append, List.nodup_append]
    refine ⟨h.bnd, by simp, fun x hx y hy => ?_⟩
    obtain ⟨e, he, rfl⟩ := List.mem_map.1 hx
    simp at hy; subst hy
    have := h.born e he
    omega
theorem MapOk.put (h : MapOk κ es clock l) [DecidableEq α] (a : α) (t : TV) : MapOk κ (putE (κ.v a) t es clock) (clkE (κ.v a) es clock) (if a ∈ l then l else l ++ [a]) := by
  split
  · rename_i ha; exact h.put_old ha t
  · rename_i ha; exact h.put_new ha t
theorem MapOk.get_put (h : MapOk κ es clock l) [DecidableEq α] (a b : α) (t : TV) : getM κ (putE (κ.v a) t es clock) b = if b = a then some t else getM κ es b := by
  unfold getM
  by_cases ha : a ∈ l
  · have hp := h.put_old ha t
    obtain ⟨j, hj⟩ := List.mem_iff_getElem?.1 ha
    have hf := h.find.2 hj
    have hjl : j < es.length := findT_lt hf
    have hval : ∀ i, i < es.length → valAt (putE (κ.v a) t es clock) i = if i = j then t else valAt es i := by
      intro i hi
      unfold putE valAt
      rw [hf]
      simp only [List.getElem?_modify]
      by_cases hij : j = i
      · subst hij; simp [List.getElem?_eq_getElem hjl]
      · have : ¬ i = j := fun e => hij e.symm
        simp [hij, this]
    cases hb : findT (κ.v b) es with
    | none =>
      have hbn : b ∉ l := fun hm => by
        obtain ⟨i, hi⟩ := List.mem_iff_getElem?.1 hm
        rw [h.find.2 hi] at hb; cases hb
      rw [hp.no hbn, if_neg (fun e => hbn (by rw [e]; exact ha))]; rfl
    | some i =>
      have hi := h.find.1 hb
      rw [hp.find.2 hi]
      simp only [Option.map_some]
      rw [hval i (findT_lt hb)]
      have h1 := (List.getElem?_eq_some_iff.1 hi)
      have h2 := (List.getElem?_eq_some_iff.1 hj)
      by_cases hba : b = a
      · subst hba
        have : i = j := (List.getElem_inj (h₀ := h1.1) (h₁ := h2.1) h.nd).1 (h1.2.trans h2.2.symm)
        rw [if_pos this, if_pos rfl]
      · rw [if_neg (fun e => hba (by subst e; rw [← h1.2, ← h2.2])), if_neg hba]
  · have hp := h.put_new ha t
    have hpe : putE (κ.v a) t es clock = es ++ [(κ.v a, clock, t)] := by unfold putE; rw [h.no ha]
    by_cases hba : b = a
    · subst hba
      have : findT (κ.v b) (putE (κ.v b) t es clock) = some l.length := hp.find.2 (by simp)
      rw [this, if_pos rfl, hpe]
      simp [valAt, ← h.len]
    · rw [if_neg hba]
      cases hb : findT (κ.v b) es with
      | none =>
        have hbn : b ∉ l := fun hm => by
          obtain ⟨i, hi⟩ := List.mem_iff_getElem?.1 hm
          rw [h.find.2 hi] at hb; cases hb
        rw [hp.no (by simp [hbn, hba])]; rfl
      | some i =>
        have hi := h.find.1 hb
        have hil : i < es.length := findT_lt hb
        rw [hp.find.2 (by rw [List.getElem?_append_left (by rw [← h.len]; exact hil)]; exact hi), hpe]
        simp [valAt, List.getElem?_append_left hil]
theorem map_erase {β γ : Type} (f : β → γ) (l : List β) (j : Nat) : (l.eraseIdx j).map f = (l.map f).eraseIdx j := by
  apply List.ext_getElem?
  intro i
  rw [List.getElem?_map, List.getElem?_eraseIdx, List.getElem?_eraseIdx]
  split <;> rw [List.getElem?_map]
/-- A key goes. -/
def delE (k : Value) (es : Ents) : Ents := match findT k es with | some j => es.eraseIdx j | none => es
theorem MapOk.del (h : MapOk κ es clock l) [DecidableEq α] (a : α) : MapOk κ (delE (κ.v a) es) clock (l.erase a) := by
  unfold delE
  cases hf : findT (κ.v a) es with
  | none =>
    have han : a ∉ l := fun hm => by
      obtain ⟨i, hi⟩ := List.mem_iff_getElem?.1 hm
      rw [h.find.2 hi] at hf; cases hf
    rw [List.erase_of_not_mem han]; exact h
  | some j =>
    have hj := h.find.1 hf
    have hj' := List.getElem?_eq_some_iff.1 hj
    have he : l.erase a = l.eraseIdx j := by
      rw [List.erase_eq_eraseIdx]
      have : l.idxOf? a = some j := by
        unfold List.idxOf?
        rw [List.findIdx?_eq_some_iff_getElem]
        obtain ⟨q1, q2⟩ := hj'
        refine ⟨q1, by simp [q2], fun i hi => ?_⟩
        have hj' : ∃ h : j < l.length, l[j] = a := ⟨q1, q2⟩
        have : l[i]'(by omega) ≠ a := fun e => by
          have := (List.getElem_inj (h₀ := by omega) (h₁ := q1) h.nd).1 (e.trans q2.symm)
          omega
        simpa using this
      rw [this]
    rw [he]
    refine ⟨by rw [map_erase, map_erase, h.keys], h.nd.sublist (List.eraseIdx_sublist _ _), fun e hm => h.born e ((List.eraseIdx_sublist _ _).subset hm), ?_⟩
    rw [map_erase]
    exact h.bnd.sublist (List.eraseIdx_sublist _ _)
theorem MapOk.get_del (h : MapOk κ es clock l) [DecidableEq α] (a b : α) : getM κ (delE (κ.v a) es) b = if b = a then none else getM κ es b := by
  have hd := h.del a
  by_cases hba : b = a
  · subst hba
    rw [if_pos rfl]
    unfold getM
    rw [hd.no (fun hm => (List.Nodup.mem_erase_iff h.nd).1 hm |>.1 rfl)]; rfl
  · rw [if_neg hba]
    unfold getM
    cases hb : findT (κ.v b) es with
    | none =>
      have hbn : b ∉ l := fun hm => by
        obtain ⟨i, hi⟩ := List.mem_iff_getElem?.1 hm
        rw [h.find.2 hi] at hb; cases hb
      rw [hd.no (fun hm => hbn (List.mem_of_mem_erase hm))]; rfl
    | some i =>
      have hi := h.find.1 hb
      have hil := findT_lt hb
      cases hf : findT (κ.v a) es with
      | none =>
        have : delE (κ.v a) es = es := by unfold delE; rw [hf]
        rw [this, hb]
      | some j =>
        have hde : delE (κ.v a) es = es.eraseIdx j := by unfold delE; rw [hf]
        have hm : b ∈ l.erase a := (List.Nodup.mem_erase_iff h.nd).2 ⟨hba, List.mem_of_getElem? hi⟩
        obtain ⟨i', hi'⟩ := List.mem_iff_getElem?.1 hm
        rw [hd.find.2 hi']
        simp only [Option.map_some, Option.some.injEq]
        have hkd : (delE (κ.v a) es)[i']? = es[if i' < j then i' else i' + 1]? := by
          rw [hde, List.getElem?_eraseIdx]
          split <;> rfl
        have hkk : l[if i' < j then i' else i' + 1]? = some b := by
          have h3 := hd.keys
          have h4 : ((delE (κ.v a) es).map (·.1))[i']? = some (κ.v b) := by rw [h3, List.getElem?_map, hi']; rfl
          rw [List.getElem?_map, hkd, ← List.getElem?_map, h.keys, List.getElem?_map] at h4
          obtain ⟨x, hx, hxb⟩ := Option.map_eq_some_iff.1 h4
          rw [hx]
          have : keyEq (κ.v x) (κ.v b) = true := by rw [hxb]; exact (κ.eq b b).2 rfl
          rw [(κ.eq x b).1 this]
        have h5 := List.getElem?_eq_some_iff.1 hkk
        have h6 := List.getElem?_eq_some_iff.1 hi
        have : (if i' < j then i' else i' + 1) = i := (List.getElem_inj (h₀ := h5.1) (h₁ := h6.1) h.nd).1 (h5.2.trans h6.2.symm)
        unfold valAt
        rw [hkd, this]
end
end Go.Proofs.YtlljknmojafkoaaGreatDoor.TL
namespace Go.Proofs.YtlljknmojafkoaaGreatDoor.TL
open Go.RowKit Go.Sort
/-- New blocks behind the others. -/
theorem Rel.grow {w0 : World} {c : Cx} {S : TS} {w : World} (h : Rel w0 c S w) (os : Array Obj) : Rel w0 c S (Sort.grow w os) ∧ Mono c w c (Sort.grow w os) := by
  have hA : ∀ b o, c.A b o → (Sort.grow w os).cell? ⟨b, o, none⟩ = w.cell? ⟨b, o, none⟩ := fun b o ha => cell?_grow w os _ (h.alt ha)
  have m : Mono c w c (Sort.grow w os) := ⟨fun _ _ h => h, hA, fun _ _ h => h, Nat.le_refl _⟩
  refine ⟨⟨h.below.trans ⟨rfl, rfl, rfl, by simp, fun k hk => heap_grow_old w os (Nat.lt_of_lt_of_le hk h.le)⟩, h.dom, fun id hid => (h.obj id hid).keep m rfl (fun hl b e hb => ⟨heap_grow_old w os (h.fresh hb hl), fun _ h => h⟩), h.inj, fun b o ha => ?_, h.wf, h.cn⟩, m⟩
  obtain ⟨v, hv⟩ := h.cell b o ha
  exact ⟨v, (hA b o ha).trans hv⟩
theorem Rel.ahead {w0 : World} {c : Cx} {S : TS} {w : World} (h : Rel w0 c S w) (n : Nat) : Rel w0 c S (Sort.ahead w n) ∧ Mono c w c (Sort.ahead w n) := by
  have m : Mono c w c (Sort.ahead w n) := ⟨fun _ _ h => h, fun _ _ _ => rfl, fun _ _ h => h, Nat.le_refl _⟩
  exact ⟨⟨h.below.trans ⟨rfl, rfl, rfl, Nat.le_refl _, fun _ _ => rfl⟩, h.dom, fun id hid => (h.obj id hid).keep m rfl (fun _ b e _ => ⟨rfl, fun _ h => h⟩), h.inj, h.cell, h.wf, h.cn⟩, m⟩
def litC {α : Type} (enc : α → Value) (d : List α) : List TV := d.map fun x => .lit (enc x)
theorem putCells_get {α : Type} [Inhabited α] (enc : α → Value) (d : List α) (c : Array Value) (hc : d.length ≤ c.size) (j : Nat) (x : α) (hj : d[j]? = some x) : (putCells enc 0 d.toArray c)[j]? = some (enc x) := by
  have hlt : j < d.length := (List.getElem?_eq_some_iff.1 hj).1
  simp only [putCells, Array.getElem?_mapIdx, Array.getElem?_eq_getElem (show j < c.size by omega), Option.map_some, Nat.zero_le, true_and, Nat.zero_add, List.size_toArray, hlt, if_true, Nat.sub_zero]
  congr 2
  simp [hlt]
  rw [List.getElem?_eq_getElem hlt] at hj
  injection hj with hj
/-- A row is written over. -/
theorem Rel.putRow {α : Type} [Inhabited α] {w0 : World} {c : Cx} {S : TS} {w : World} (h : Rel w0 c S w) {id e b : Nat} {z : Nat × Nat} (enc : α → Value) (d d' : List α) (hobj : S.objs id = .cells e (litC enc d)) (hγ : c.γ id = some (b, z)) (hl : d'.length = d.length) :
    Rel w0 c (S.set id (.cells e (litC enc d'))) (Sort.putRow enc w b 0 d'.toArray) ∧ Mono c w c (Sort.putRow enc w b 0 d'.toArray) := by
  have hid := h.dom _ _ hγ
  have hob := h.obj id hid
  rw [hobj] at hob
  obtain ⟨g2, ⟨arr, fr, g3, gz, gl, g0⟩, gf, g4, g5⟩ := hob.2 b z hγ
  have hsz : (litC enc d).length = d.length := by simp [litC]
  have hother : ∀ k, k ≠ b → (Sort.putRow enc w b 0 d'.toArray).heap[k]? = w.heap[k]? := by
    intro k hk
    simp only [Sort.putRow, mapBlock, Array.getElem?_modify]
    rw [if_neg (fun e => hk e.symm)]
  have hblk : (Sort.putRow enc w b 0 d'.toArray).heap[b]? = some (.cells (putCells enc 0 d'.toArray arr) e fr) := by
    simp [Sort.putRow, mapBlock, Array.getElem?_modify, g3, onCells]
  refine h.change (w' := Sort.putRow enc w b 0 d'.toArray) id (.cells e (litC enc d')) b z hid hγ (by rw [hobj]; rfl) g2 (by simp [Sort.putRow, mapBlock]) ⟨rfl, rfl, rfl⟩ hother (fun j hj => absurd hj (g5 j)) fun m => ?_
  refine ⟨(fun hn => by rw [hγ] at hn; cases hn), fun b2 z2 h2 => ?_⟩
  rw [hγ] at h2
  injection h2 with h2; injection h2 with q1 q2; subst q1 q2
  refine ⟨g2, ⟨_, fr, hblk, by simp [putCells, gz], by simp only [litC, List.length_map]; rw [hl, ← hsz]; exact ⟨gl, g0⟩⟩, fun j hj => by rw [show (Sort.putRow enc w b 0 d'.toArray).frozen? ⟨b, j, none⟩ = w.frozen? ⟨b, j, none⟩ from frozen?_mapBlock _ _ _ _]; exact gf j hj, fun j x hx => ?_, g5⟩
  unfold litC at hx
  rw [List.getElem?_map] at hx
  obtain ⟨y, hy, rfl⟩ := Option.map_eq_some_iff.1 hx
  refine ⟨enc y, ?_, .lit _⟩
  rw [g0, Nat.zero_add]
  simp only [World.cell?, hblk]
  exact putCells_get enc d' arr (by rw [hl, ← hsz]; omega) j y hy
theorem holds_of {α : Type} [Inhabited α] {E : Env} {w0 : World} {c : Cx} {S : TS} {w : World} (hk : Ok E w0 c S w) {id e b : Nat} {z : Nat × Nat} (enc : α → Value) (d : List α) (hobj : S.objs id = .cells e (litC enc d)) (hγ : c.γ id = some (b, z)) : z.1 = 0 ∧ Holds enc w b 0 d.toArray ∧ b < w.heap.size := by
  have hob := hk.rel.obj id (hk.rel.dom _ _ hγ)
  rw [hobj] at hob
  obtain ⟨g2, ⟨arr, fr, g3, gz, gl, g0⟩, gf, g4, g5⟩ := hob.2 b z hγ
  have hsz : (litC enc d).length = d.length := by simp [litC]
  refine ⟨g0, fun j hj => ?_, (Array.getElem?_eq_some_iff.1 g3).1⟩
  have hj' : j < d.length := by simpa using hj
  obtain ⟨v, k1, k2⟩ := g4 j (.lit (enc d[j])) (by simp [litC, List.getElem?_map, List.getElem?_eq_getElem hj'])
  rw [k2.lit_inv, g0] at k1
  rw [k1]
  refine ⟨by simp [hj'], ?_⟩
  rw [Nat.zero_add]
  exact gf j (by omega)
/-- A call that turns a row's cells into others, and hands back nothing. -/
theorem TCall.sorted {α : Type} [Inhabited α] {E : Env} {f : FuncId} {S : TS} {id e n : Nat} (enc : α → Value) (d d' : List α) (ho : S.objs id = .cells e (litC enc d)) (hl : d'.length = d.length) (hn : n = d.length) (h0 : 0 < n) (he : Ent E.P f)
    (hc : ∀ blk cap w, Holds enc w blk 0 d.toArray → blk < w.heap.size → Calls E.P f #[.slice (some ⟨blk, 0, none⟩) d.length cap] w fun e w' => e = .returned (.tuple #[]) ∧ ∃ n os, w' = Sort.grow (Sort.putRow enc (Sort.ahead w n) blk 0 d'.toArray) os) :
    TCall E f [.vs id 0 1 n] S fun t S' => t = .tup [] ∧ S' = S.set id (.cells e (litC enc d')) := by
  intro w0 c w vs hk hv
  have hsz : vs.size = 1 := hv.size
  have hv0 := hv.rd 0 _ vs[0] rfl (Array.getElem?_eq_getElem (by omega))
  have hvs : vs = #[vs[0]] := by
    apply Array.ext
    · simpa using hsz
    · intro i h1 h2
      have : i = 0 := by simp at h2; exact h2
      subst this; rfl
  rw [hvs]
  generalize vs[0] = v at hv0 ⊢
  cases hv0 with
  | vs _ _ _ _ cap b z hγ hcap hz =>
    obtain ⟨g0, hH, hb⟩ := holds_of hk enc d ho hγ
    refine .inl ⟨he, ?_⟩
    have e0 : z.1 + 0 = 0 := by omega
    rw [e0, hn]
    refine (hc b cap w hH hb).mono fun e' w' ⟨h1, m, os, h2⟩ => ⟨_, h1, ?_⟩
    subst h2
    obtain ⟨r1, m1⟩ := hk.rel.ahead m
    obtain ⟨r2, m2⟩ := r1.putRow enc d d' ho hγ hl
    obtain ⟨r3, m3⟩ := r2.grow os
    exact ⟨.tup [], c, _, hk.step r3 ((m1.trans m2).trans m3), (m1.trans m2).trans m3, .tup [] #[] rfl (fun j t v h _ => by simp at h), rfl, rfl⟩
  | vsN => omega
end Go.Proofs.YtlljknmojafkoaaGreatDoor.TL
namespace Go.Proofs.YtlljknmojafkoaaGreatDoor.TL
open Go.RowKit
/-- The same value with fewer tags. -/
inductive Dg : TV → TV → Prop
  | refl (t : TV) : Dg t t
  | sl (g : Tag) (s : Nat) (xs : List D) : Dg (.sl g s xs) (.sl .none s xs)
  | sl0 (g : Tag) (s s' : Nat) : Dg (.sl g s []) (.sl .none s' [])
  | agg (a a' : List TV) (h1 : a'.length = a.length) (h3 : ∀ (j : Nat) t t', a[j]? = some t → a'[j]? = some t' → Dg t t') : Dg (.agg a) (.agg a')
  | tup (a a' : List TV) (h1 : a'.length = a.length) (h3 : ∀ (j : Nat) t t', a[j]? = some t → a'[j]? = some t' → Dg t t') : Dg (.tup a) (.tup a')
theorem Dg.ok {c : Cx} {w : World} {t t' : TV} (h : Dg t t') : ∀ {v : Value}, RdT c w t v → RdT c w t' v := by
  induction h with
  | refl t => exact fun h => h
  | sl g s xs =>
    intro v hr
    cases hr with
    | sl _ _ _ _ h1 hg => exact .sl _ _ _ _ h1 trivial
  | sl0 g s s' =>
    intro v hr
    cases hr with
    | sl _ _ _ _ h1 hg => exact .sl _ _ _ _ (h1.nil_any s') trivial
  | agg a a' h1 _ ih =>
    intro v hr
    cases hr with
    | agg _ vs k1 k3 =>
      refine .agg _ vs (by omega) fun j t v g1 g2 => ?_
      have hj : j < a.length := by rw [← h1]; exact (List.getElem?_eq_some_iff.1 g1).1
      exact ih j _ t (List.getElem?_eq_getElem hj) g1 (k3 j _ v (List.getElem?_eq_getElem hj) g2)
  | tup a a' h1 _ ih =>
    intro v hr
    cases hr with
    | tup _ vs k1 k3 =>
      refine .tup _ vs (by omega) fun j t v g1 g2 => ?_
      have hj : j < a.length := by rw [← h1]; exact (List.getElem?_eq_some_iff.1 g1).1
      exact ih j _ t (List.getElem?_eq_getElem hj) g1 (k3 j _ v (List.getElem?_eq_getElem hj) g2)
inductive DgL : List TV → List TV → Prop
  | nil : DgL [] []
  | cons {x y : TV} {a b : List TV} (h : Dg x y) (h2 : DgL a b) : DgL (x :: a) (y :: b)
theorem DgL.ok {a b : List TV} (h : DgL a b) : b.length = a.length ∧ ∀ (j : Nat) t t', a[j]? = some t → b[j]? = some t' → Dg t t' := by
  induction h with
  | nil => exact ⟨rfl, fun j t t' h => by simp at h⟩
  | cons h1 _ ih =>
    refine ⟨by simp [ih.1], fun j t t' k1 k2 => ?_⟩
    cases j with
    | zero => simp at k1 k2; subst k1 k2; exact h1
    | succ j => exact ih.2 j t t' (by simpa using k1) (by simpa using k2)
theorem DgL.refl : ∀ (a : List TV), DgL a a
  | [] => .nil
  | _ :: a => .cons (.refl _) (DgL.refl a)
theorem Dg.tupF {a b : List TV} (h : DgL a b) : Dg (.tup a) (.tup b) := .tup _ _ h.ok.1 h.ok.2
theorem Dg.aggF {a b : List TV} (h : DgL a b) : Dg (.agg a) (.agg b) := .agg _ _ h.ok.1 h.ok.2
section
variable {E : Env} {f : FuncId} {args : List TV} {S : TS}
/-- What a call hands back, without the tags; all that it has made is forgotten. -/
theorem TCall.toPure {r : TV} {K : TV → TS → Prop} (h : TCall E f args S fun t S' => Ren S.n [] t r ∧ Keep S S') (hK : K r S) : TCall E f args S K :=
  (h.forget (R' := fun t S' => t = r ∧ S' = S) fun t S1 hw ⟨h1, h2⟩ => ⟨[], r, S, .none hw h2, h1, rfl, rfl⟩).mono fun t S' ⟨h1, h2⟩ => by rw [h1, h2]; exact hK
/-- .. where the result may be read with fewer tags first. -/
theorem TCall.toPureD {r : TV} {K : TV → TS → Prop} (h : TCall E f args S fun t S' => ∃ t', Dg t t' ∧ Ren S.n [] t' r ∧ Keep S S') (hK : K r S) : TCall E f args S K := by
  refine TCall.toPure (r := r) (fun w0 c w vs hk hv => (h w0 c w vs hk hv).mono ?_) hK
  rintro v w' ⟨t, c1, S1, h1, h2, h3, t', h4, h5, h6⟩
  exact ⟨t', c1, S1, h1, h2, h4.ok h3, h5, h6⟩
theorem TCall.dgR {K : TV → TS → Prop} (h : TCall E f args S fun t S' => ∃ t', Dg t t' ∧ K t' S') : TCall E f args S K := by
  refine fun w0 c w vs hk hv => (h w0 c w vs hk hv).mono ?_
  rintro v w' ⟨t, c1, S1, h1, h2, h3, t', h4, h5⟩
  exact ⟨t', c1, S1, h1, h2, h4.ok h3, h5⟩
/-- A call's own row that may be written, or nothing: a row. -/
theorem TCall.bufE {e s len : Nat} {cs : List TV} (h : TCall E f args S fun t S' => ((∃ k, t = .vs k 0 s len ∧ S.n ≤ k ∧ S'.objs k = .cells e cs) ∨ (len = 0 ∧ cs = [] ∧ ∃ s0, t = .sl .full s0 [])) ∧ Keep S S') (hlit : ∀ x ∈ cs, ∃ v, x = .lit v) :
    TCall E f args S fun t S' => t = .vs S.n 0 s len ∧ S' = S.push (.cells e cs) := by
  refine TCall.buf (fun w0 c w vs hk hv => (h w0 c w vs hk hv).mono ?_) hlit
  rintro v w' ⟨t, c1, S1, h1, h2, h3, h4, h5⟩
  rcases h4 with ⟨k, rfl, hk2, ho⟩ | ⟨rfl, rfl, s0, rfl⟩
  · exact ⟨_, c1, S1, h1, h2, h3, k, rfl, hk2, ho, h5⟩
  · obtain ⟨c', r1, r2, r3, r4⟩ := h1.rel.virtual' (.cells e []) (.inr ⟨e, rfl⟩)
    refine ⟨.vs S1.n 0 s 0, c', _, h1.step r1 r2, h2.trans r2, ?_, S1.n, rfl, h5.1, push_self _ _, h5.push' _⟩
    have hlt : S1.n < c'.n := by omega
    cases h3 with
    | sl _ _ _ _ q1 q2 =>
      cases q1 with
      | nil _ a cap => obtain rfl : cap = 0 := q2; exact .vsN _ _ _ _ hlt
      | sl _ _ b o n cap hn hc hm _ =>
        have hn : 0 = n := hn
        subst hn
        obtain rfl : cap = 0 := q2
        exact .vsN _ _ _ _ hlt
/-- A ghost step: the same world read in another way. -/
def Gh (S1 S2 : TS) : Prop := ∀ w0 c w, Rel w0 c S1 w → ∃ c', Rel w0 c' S2 w ∧ Mono c w c' w
theorem Gh.refl (S : TS) : Gh S S := fun _ c w h => ⟨c, h, Mono.refl _ _⟩
theorem Gh.trans {S1 S2 S3 : TS} (h : Gh S1 S2) (k : Gh S2 S3) : Gh S1 S3 := fun w0 c w hr =>
  let ⟨c1, h1, h2⟩ := h w0 c w hr
  let ⟨c2, k1, k2⟩ := k w0 c1 w h1
  ⟨c2, k1, h2.trans k2⟩
theorem TCall.gh {K : TV → TS → Prop} (h : TCall E f args S fun t S' => ∃ S2, Gh S' S2 ∧ K t S2) : TCall E f args S K := by
  intro w0 c w vs hk hv
  refine (h w0 c w vs hk hv).mono ?_
  rintro v w' ⟨t, c1, S1, h1, h2, h3, S2, hg, hK⟩
  obtain ⟨c', g1, g2⟩ := hg w0 c1 w' h1.rel
  exact ⟨t, c', S2, h1.step g1 g2, h2.trans g2, h3.step g2, hK⟩
theorem TCall.gh0 {S2 : TS} {K : TV → TS → Prop} (hg : Gh S S2) (h : TCall E f args S2 K) : TCall E f args S K := .ghost (fun w0 c w hk => hg w0 c w hk.rel) h
/-- A ghost step ahead of code. -/
theorem W.gh {N : Nat} {code : Code} {Q : Exit → (Nat → TV) → TS → Prop} {T : Nat → TV} {S2 : TS} (hg : Gh S S2) (h : TWp E N code Q T S2) : TWp E N code Q T S :=
  TWp.ghost (fun w0 c w hk => let ⟨c', h1, h2⟩ := hg w0 c w hk.rel; ⟨c', h1, h2, fun _ _ hv => hv.step h2⟩) h
theorem Gh.bufCell {id e s : Nat} {cs : List TV} (e2 s' j : Nat) (hobj : S.objs id = .cells e cs) (hj : cs[j]? = some (.sl .full s [])) : Gh S ((S.push (.cells e2 [])).set id (.cells e (cs.set j (.vs S.n 0 s' 0)))) :=
  fun _ _ _ h => h.bufCell e2 s' j hobj hj
theorem Gh.rowCell {id e s : Nat} {cs : List TV} (s' j : Nat) (hobj : S.objs id = .cells e cs) (hj : cs[j]? = some (.sl .full s [])) : Gh S ((S.push .lin).set id (.cells e (cs.set j (.sl (.own S.n) s' [])))) :=
  fun _ _ _ h => h.rowCell s' j hobj hj
/-- A call's arguments with fewer tags. -/
theorem TCall.drop {b : List TV} {K : TV → TS → Prop} (h : DgL args b) (hc : TCall E f b S K) : TCall E f args S K := by
  intro w0 c w vs hk hv
  obtain ⟨h1, h2⟩ := h.ok
  refine hc w0 c w vs hk ⟨by rw [h1]; exact hv.size, fun j t v g1 g2 => ?_⟩
  have hj : j < args.length := by rw [← h1]; exact (List.getElem?_eq_some_iff.1 g1).1
  exact (h2 j _ t (List.getElem?_eq_getElem hj) g1).ok (hv.rd j _ v (List.getElem?_eq_getElem hj) g2)
theorem Gh.cells {id e : Nat} {cs cs' : List TV} (hobj : S.objs id = .cells e cs) (h : DgL cs cs') : Gh S (S.set id (.cells e cs')) := fun w0 c w hr =>
  ⟨c, hr.reread hobj h.ok.1 fun j x x' v hx hx' hv => (h.ok.2 j x x' hx hx').ok hv, Mono.refl _ _⟩
/-- Temporaries with fewer tags. -/
theorem TWp.drop (i : Nat) {t : TV} {N : Nat} {code : Code} {Q : Exit → (Nat → TV) → TS → Prop} {T : Nat → TV} (h : Dg (T i) t) (hw : TWp E N code Q (upd T i t) S) : TWp E N code Q T S := by
  refine TWp.ghost (T' := upd T i t) (S' := S) (fun w0 c w hk => ⟨c, hk.rel, Mono.refl _ _, fun j v hv => ?_⟩) hw
  unfold upd
  split
  · rename_i hji; subst hji; exact h.ok hv
  · exact hv
theorem loW.drop (i : Nat) {t : TV} {N : Nat} {c : Code} {p : Pin c} {Q : Exit → (Nat → TV) → TS → Prop} {T : Nat → TV} (h : Dg (T i) t) (hw : loW E N c p Q (upd T i t) S) : loW E N c p Q T S := TWp.drop i h hw
theorem loW.gh {N : Nat} {c : Code} {p : Pin c} {Q : Exit → (Nat → TV) → TS → Prop} {T : Nat → TV} {S2 : TS} (hg : Gh S S2) (h : loW E N c p Q T S2) : loW E N c p Q T S := W.gh hg h
/-- Outside F all is as it was. -/
structure Frm (S S' : TS) (F : Nat → Prop) : Prop where
  n : S.n ≤ S'.n
  o : ∀ id, id < S.n → ¬ F id → S'.objs id = S.objs id
theorem Frm.refl (S : TS) (F : Nat → Prop) : Frm S S F := ⟨Nat.le_refl _, fun _ _ _ => rfl⟩
theorem Frm.push {S' : TS} {F : Nat → Prop} (h : Frm S S' F) (o : TObj) : Frm S (S'.push o) F :=
  ⟨Nat.le_succ_of_le h.n, fun id hi hl => by rw [TS.push_objs, if_neg (by have := h.n; omega)]; exact h.o id hi hl⟩
theorem Frm.set {S' : TS} {F : Nat → Prop} (h : Frm S S' F) {id : Nat} (hid : F id ∨ S.n ≤ id) (o : TObj) : Frm S (S'.set id o) F :=
  ⟨h.n, fun j hj hl => by rw [TS.set_objs, if_neg (fun e => by subst e; rcases hid with h | h; exact hl h; omega)]; exact h.o j hj hl⟩
theorem Frm.trans {S1 S2 : TS} {F F' : Nat → Prop} (h : Frm S S1 F) (k : Frm S1 S2 F') (hl : ∀ x, F' x → F x ∨ S.n ≤ x) : Frm S S2 F :=
  ⟨Nat.le_trans h.n k.n, fun id hi hx => (k.o id (Nat.lt_of_lt_of_le hi h.n) fun hm => by rcases hl id hm with h | h; exact hx h; omega).trans (h.o id hi hx)⟩
theorem Frm.of_push {S' : TS} {F : Nat → Prop} {o : TObj} (h : Frm (S.push o) S' F) : Frm S S' F :=
  ⟨Nat.le_of_succ_le h.n, fun id hi hl => (h.o id (Nat.lt_succ_of_lt hi) hl).trans (by rw [TS.push_objs, if_neg (by omega)])⟩
theorem Keep.frm {S' : TS} (h : Keep S S') (F : Nat → Prop) : Frm S S' F := ⟨h.1, fun id hi _ => h.2 id hi⟩
theorem Frm.keep {S' : TS} {F : Nat → Prop} (h : Frm S S' F) (hF : ∀ id, id < S.n → ¬ F id) : Keep S S' := ⟨h.n, fun id hi => h.o id hi (hF id hi)⟩
theorem Frm.new {S' : TS} {F : Nat → Prop} {o : TObj} (h : Frm (S.push o) S' F) (hF : ∀ id, F id → id < S.n) : S'.objs S.n = o :=
  (h.o S.n (Nat.lt_succ_self _) fun hf => Nat.lt_irrefl _ (hF _ hf)).trans (by rw [TS.push_objs, if_pos rfl])
theorem Frm.old {S' : TS} {F : Nat → Prop} (h : Frm S S' F) {id : Nat} {o : TObj} (hi : id < S.n) (hf : ¬ F id) (ho : S.objs id = o) : S'.objs id = o := (h.o id hi hf).trans ho
end
end Go.Proofs.YtlljknmojafkoaaGreatDoor.TL
namespace Go.Proofs.YtlljknmojafkoaaGreatDoor.TL
open Go.RowKit Go.MapKept
def toU (s : Bs) : List UInt8 := s.map UInt8.ofBitVec
def ofU (u : List UInt8) : Bs := u.map UInt8.toBitVec
theorem ofU_toU (s : Bs) : ofU (toU s) = s := by
  simp only [ofU, toU, List.map_map]
  have : (UInt8.toBitVec ∘ UInt8.ofBitVec) = id := by funext x; rfl
  rw [this, List.map_id]
theorem toU_ofU (u : List UInt8) : toU (ofU u) = u := by
  simp only [ofU, toU, List.map_map]
  have : (UInt8.ofBitVec ∘ UInt8.toBitVec) = id := by funext x; rfl
  rw [this, List.map_id]
theorem map_ofU_toU (l : List Bs) : (l.map toU).map ofU = l := by
  rw [List.map_map]
  have : (ofU ∘ toU) = id := by funext x; exact ofU_toU x
  rw [this, List.map_id]
def sortB (l : List Bs) : List Bs := ((l.map toU).mergeSort fun x y => decide (x ≤ y)).map ofU
/-- Whatever happens behind the world's blocks. -/
theorem Rel.behind {w0 : World} {c : Cx} {S : TS} {w w' : World} (h : Rel w0 c S w) (hb : Below w.heap.size w w') : Rel w0 c S w' ∧ Mono c w c w' := by
  have m : Mono c w c w' := ⟨fun _ _ h => h, fun b o ha => World.cell?_of_block (w := w) (w' := w') (a := ⟨b, o, none⟩) (hb.block b (h.alt ha)), fun _ _ h => h, Nat.le_refl _⟩
  refine ⟨⟨h.below.trans ⟨hb.os, hb.tape, hb.output, hb.size, fun k hk => hb.block k (Nat.lt_of_lt_of_le hk h.le)⟩, h.dom, fun id hid => (h.obj id hid).keep m rfl (fun hl b e hbe => ⟨hb.block b (h.fresh hbe hl), fun _ h => h⟩), h.inj, fun b o ha => ?_, h.wf, h.cn⟩, m⟩
  obtain ⟨v, hv⟩ := h.cell b o ha
  exact ⟨v, (m.cell b o ha).trans hv⟩
/-- A block that lies behind is taken over. -/
theorem Rel.adopt {w0 : World} {c : Cx} {S : TS} {w w' : World} (h : Rel w0 c S w) (hb : Below w.heap.size w w') {g : Nat} {cur : Array Value} {e : TypeId} (hg : w.heap.size ≤ g) (hh : w'.heap[g]? = some (.cells cur e (0, 0))) (cs : List TV) (hl : cs.length ≤ cur.size)
    (hcs : ∀ (j : Nat) x, cs[j]? = some x → ∃ v, cur[j]? = some v ∧ x = .lit v) : ∃ c', Rel w0 c' (S.push (.cells e cs)) w' ∧ Mono c w c' w' ∧ c'.γ S.n = some (g, (0, cur.size)) := by
  obtain ⟨h', m'⟩ := h.behind hb
  let c' : Cx := { A := c.A, γ := fun i => if i = S.n then some (g, (0, cur.size)) else c.γ i, n := S.n + 1 }
  have hold : ∀ id x, c.γ id = some x → c'.γ id = some x := fun id x hx => by
    have := h.dom id x hx
    show (if id = S.n then _ else _) = _
    rw [if_neg (by omega)]; exact hx
  have m : Mono c w c' w' := ⟨fun _ _ h => h, m'.cell, hold, by have := h.cn; show c.n ≤ S.n + 1; omega⟩
  have m2 : Mono c w' c' w' := ⟨fun _ _ h => h, fun _ _ _ => rfl, hold, by have := h.cn; show c.n ≤ S.n + 1; omega⟩
  have hγ : c'.γ S.n = some (g, (0, cur.size)) := if_pos rfl
  have hno : ∀ id b z, id < S.n → (S.objs id).live = true → c.γ id = some (b, z) → b ≠ g := fun id b z hi hl hz e => by
    have := h.fresh hz hl; omega
  refine ⟨c', ⟨h'.below, ?_, ?_, ?_, h'.cell, fun id hid => by rw [TS.push_objs, if_neg (by have : S.n + 1 ≤ id := hid; omega)]; exact h.wf id (by have : S.n + 1 ≤ id := hid; omega), rfl⟩, m, hγ⟩
  · intro id x hx
    show id < S.n + 1
    by_cases hi : id = S.n
    · omega
    · have : c.γ id = some x := by simpa [c', hi] using hx
      have := h.dom id x this; omega
  · intro id hid
    rw [TS.push_objs]
    by_cases hi : id = S.n
    · rw [if_pos hi, hi]
      refine ⟨fun hn => (by rw [hγ] at hn; cases hn), fun b z hz => ?_⟩
      rw [hγ] at hz
      cases hz
      refine ⟨Nat.le_trans h.le hg, ⟨cur, _, hh, rfl, by simpa using hl, rfl⟩, fun j hj => by simp [World.frozen?, hh], fun j x hx => ?_, fun j ha => ?_⟩
      · obtain ⟨v, h1, rfl⟩ := hcs j x hx
        exact ⟨v, by simp [World.cell?, hh, h1], .lit v⟩
      · have := h.alt ha; omega
    · rw [if_neg hi]
      have hid' : id < S.n := by have : id < S.n + 1 := hid; omega
      refine (h'.obj id hid').keep m2 (by simp [c', hi]) fun hl b e' hb => ⟨rfl, fun _ h => h⟩
  · intro i j b e1 e2 hi hj li lj gi gj
    rw [TS.push_objs] at li lj
    have hi2 : i < S.n + 1 := hi
    have hj2 : j < S.n + 1 := hj
    by_cases hi' : i = S.n
    · by_cases hj' : j = S.n
      · omega
      · rw [if_neg hj'] at lj
        rw [hi', hγ] at gi
        cases gi
        exact absurd rfl (hno j _ e2 (by omega) lj (by simpa [c', hj'] using gj))
    · rw [if_neg hi'] at li
      have gi' : c.γ i = some (b, e1) := by simpa [c', hi'] using gi
      by_cases hj' : j = S.n
      · rw [hj', hγ] at gj
        cases gj
        exact absurd rfl (hno i _ e1 (by omega) li gi')
      · rw [if_neg hj'] at lj
        exact h.inj i j b e1 e2 (by omega) (by omega) li lj gi' (by simpa [c', hj'] using gj)
/-- A map of the state is a map of the kit's. -/
theorem ownsMap_of {w0 : World} {c : Cx} {S : TS} {w : World} {P : Program} (h : Rel w0 c S w) {m clock b : Nat} {z : Nat × Nat} {es : Ents} {ks : List Bs} (hγ : c.γ m = some (b, z)) (hobj : S.objs m = .map es clock) (mo : MapOk kS es clock ks)
    {K : TypeId} (hK : P.underlying K = some .string) (hl : ks.length ≤ 1000000) (hkl : ∀ k ∈ ks, k.length ≤ 1000000) :
    ∃ D0 : DataW Unit, w.ownsMap P K (fun _ => some (.nil, [])) b ks.length D0 ∧ (strKeys D0).Perm (ks.map toU) ∧ Maps.size D0 = ks.length := by
  have hm : m < S.n := h.dom _ _ hγ
  have ho := h.obj m hm
  rw [hobj] at ho
  obtain ⟨b', z', g1, g2, ents, g3, g4, g5⟩ := ho
  rw [hγ] at g1
  cases g1
  have hsz : ents.size = ks.length := by rw [g4, mo.len]
  have hkey : ents.toList.map (·.key) = ks.map kS.v := by
    rw [← mo.keys]
    apply List.ext_getElem?
    intro j
    rw [List.getElem?_map, List.getElem?_map, Array.getElem?_toList]
    by_cases hj : j < ents.size
    · rw [Array.getElem?_eq_getElem hj, List.getElem?_eq_getElem (by omega)]
      simp only [Option.map_some]
      rw [(g5 j _ _ (List.getElem?_eq_getElem (by omega)) (Array.getElem?_eq_getElem hj)).1]
    · rw [Array.getElem?_eq_none (by omega), List.getElem?_eq_none (by omega)]; rfl
  have hborn : ents.toList.map (·.born) = es.map (·.2.1) := by
    apply List.ext_getElem?
    intro j
    rw [List.getElem?_map, List.getElem?_map, Array.getElem?_toList]
    by_cases hj : j < ents.size
    · rw [Array.getElem?_eq_getElem hj, List.getElem?_eq_getElem (by omega)]
      simp only [Option.map_some]
      rw [(g5 j _ _ (List.getElem?_eq_getElem (by omega)) (Array.getElem?_eq_getElem hj)).2.1]
    · rw [Array.getElem?_eq_none (by omega), List.getElem?_eq_none (by omega)]; rfl
  have hkinj : (ks.map kS.v).Nodup := by
    rw [List.Nodup, List.pairwise_map]
    refine mo.nd.imp fun {a b} hne e => hne ?_
    have : keyEq (kS.v a) (kS.v b) = true := by rw [e]; exact (kS.eq b b).2 rfl
    exact (kS.eq a b).1 this
  have hread : ∀ x ∈ ents.toList, ∃ k ∈ ks, x.key = kS.v k ∧ WideElems.rd P K (fun _ => some ((.nil : DataW Unit), [])) x = some (.string (toU k), .nil) := by
    intro x hx
    have : x.key ∈ ks.map kS.v := by rw [← hkey]; exact List.mem_map.2 ⟨x, hx, rfl⟩
    obtain ⟨k, hk, e⟩ := List.mem_map.1 this
    refine ⟨k, hk, e.symm, ?_⟩
    unfold WideElems.rd
    rw [← e]
    have := hkl k hk
    show (keyOf P K (.string (st k))).bind _ = _
    rw [WideMaps.keyOf_string_mk hK (by rw [st_size]; unfold maxLen; omega)]
    show some _ = _
    have : (st k).data.toList = toU k := by simp [st, toU]
    rw [this]
  refine ⟨_, ⟨ents, clock, g3, ⟨by rw [hsz]; unfold maxLen; omega, ⟨fun x hx => ?_, by rw [hborn]; exact mo.bnd, by rw [hkey]; exact hkinj⟩, fun x hx => let ⟨_, _, _, e⟩ := hread x hx; ⟨_, e⟩⟩, by omega, rfl⟩, ?_, ?_⟩
  · have : x.born ∈ es.map (·.2.1) := by rw [← hborn]; exact List.mem_map.2 ⟨x, hx, rfl⟩
    obtain ⟨e, he, h1⟩ := List.mem_map.1 this
    rw [← h1]; exact mo.born e he
  · show (List.map (fun p : Lit × DataW Unit => strOf p.1) _).Perm _
    refine ((WideShapes.sorted_perm _).map _).trans ?_
    rw [List.map_map]
    have : ents.toList.map ((fun p : Lit × DataW Unit => strOf p.1) ∘ WideElems.rg P K fun _ => some (.nil, [])) = ks.map toU := by
      have h1 : ents.toList.map ((fun p : Lit × DataW Unit => strOf p.1) ∘ WideElems.rg P K fun _ => some (.nil, [])) = (ents.toList.map (·.key)).map fun v => match v with | .string s => s.data.toList | _ => [] := by
        rw [List.map_map]
        apply List.map_congr_left
        intro x hx
        obtain ⟨k, _, e1, e2⟩ := hread x hx
        simp only [Function.comp_apply, WideElems.rg, e2, Option.getD_some, strOf, e1]
        show toU k = (st k).data.toList
        simp [st, toU]
      rw [h1, hkey, List.map_map]
      apply List.map_congr_left
      intro k _
      show (st k).data.toList = toU k
      simp [st, toU]
    rw [this]
  · simp only [Maps.size, length_sorted]; simp [hsz]
theorem fnBox {E : Env} {w0 : World} {c : Cx} {S : TS} {w : World} (hk : Ok E w0 c S w) {g box : Nat} {mt : TypeId} {x : TV} {vs : Array Value} (hv : RdCells c w [.fn (.func g) [] [.ptr box 0]] vs) (ho : S.objs box = .cells mt [x]) :
    ∃ Bm mv, vs = #[.func (.func g) #[] #[.pointer (some ⟨Bm, 0, none⟩)]] ∧ Bm < w.heap.size ∧ w.cell? ⟨Bm, 0, none⟩ = some mv ∧ RdT c w x mv := by
  have hsz : vs.size = 1 := hv.size
  have hv0 := hv.rd 0 _ vs[0] rfl (Array.getElem?_eq_getElem (by omega))
  have hvs : vs = #[vs[0]] := by
    apply Array.ext
    · simpa using hsz
    · intro i h1 h2
      have : i = 0 := by simp at h2; exact h2
      subst this; rfl
  rw [hvs]
  generalize vs[0] = v at hv0 ⊢
  cases hv0 with
  | fn _ _ _ us ws k1 k2 k3 k4 =>
    have hus : us = #[] := by apply Array.eq_empty_of_size_eq_zero; simpa using k1
    have hws : ws.size = 1 := k2
    have hws1 : ws = #[ws[0]] := by
      apply Array.ext
      · simpa using hws
      · intro i h1 h2
        have : i = 0 := by simp at h2; exact h2
        subst this; rfl
    have hp := k4 0 _ ws[0] rfl (Array.getElem?_eq_getElem (by omega))
    subst hus
    rw [hws1]
    generalize ws[0] = pv at hp ⊢
    cases hp with
    | ptr _ _ Bm z hγ =>
      have hob := hk.rel.obj box (hk.rel.dom _ _ hγ)
      rw [ho] at hob
      obtain ⟨_, ⟨arr, fr, g1, g2, g3, g30⟩, _, g4, _⟩ := hob.2 Bm z hγ
      obtain ⟨mv, g5, g6⟩ := g4 0 x rfl
      have hz0 : z.1 = 0 := g30
      rw [hz0] at g5
      have e0 : z.1 + 0 = 0 := by omega
      rw [e0]
      exact ⟨Bm, mv, rfl, (Array.getElem?_eq_some_iff.1 g1).1, g5, g6⟩
/-- slices.Sorted of a map's keys: a new row. -/
theorem TCall.sortedKeys {E : Env} {f g K : Nat} {mt : TypeId} {S : TS} {box m clock : Nat} {es : Ents} {ks : List Bs} (ho : S.objs box = .cells mt [.mp m]) (hm : S.objs m = .map es clock) (mo : MapOk kS es clock ks) (hl : ks.length ≤ 1000000) (hkl : ∀ k ∈ ks, k.length ≤ 1000000)
    (hK : E.P.underlying K = some .string) (he : Ent E.P f)
    (hc : ∀ (w : World) (Bm b nn : Nat) (D0 : DataW Unit), Bm < w.heap.size → w.cell? ⟨Bm, 0, none⟩ = some (.map (some b)) → w.ownsMap E.P K (fun _ => some (.nil, [])) b nn D0 → Maps.size D0 ≤ maxLen → Maps.size D0 * 16 ≤ 140737488355328 →
      Calls E.P f #[.func (.func g) #[] #[.pointer (some ⟨Bm, 0, none⟩)]] w fun e w' => ∃ (v : Value) (ss : List (List UInt8)), e = .returned v ∧ ss.Perm (strKeys D0) ∧
        w'.ownsRow w.heap.size K 1 v ss.length ((ss.mergeSort (fun x y => decide (x ≤ y))).map Go.Proofs.encStr) ∧ (v = .slice none 0 0 ↔ ss = []) ∧ Below w.heap.size w w') :
    TCall E f [.fn (.func g) [] [.ptr box 0]] S fun t S' => t = .vs S.n 0 1 ks.length ∧ S' = S.push (.cells K (cellsD (dT (sortB ks)))) := by
  intro w0 c w vs hk hv
  obtain ⟨Bm, mv, rfl, hBm, g5, g6⟩ := fnBox hk hv ho
  cases g6 with
  | mp _ b z2 hγm =>
    obtain ⟨D0, q1, q2, q3⟩ := ownsMap_of hk.rel hγm hm mo hK hl hkl
    refine .inl ⟨he, ?_⟩
    refine (hc w Bm b _ D0 hBm g5 q1 (by rw [q3]; unfold maxLen; omega) (by rw [q3]; omega)).mono ?_
    rintro e' w' ⟨v, ss, rfl, r1, r2, r3, r4⟩
    refine ⟨v, rfl, ?_⟩
    have hperm : ss.Perm (ks.map toU) := r1.trans q2
    have hlen : ss.length = ks.length := by have := hperm.length_eq; simpa using this
    have hsort : ss.mergeSort (fun x y => decide (x ≤ y)) = (ks.map toU).mergeSort fun x y => decide (x ≤ y) := mergeSort_of_perm hperm
    have hcs : cellsD (dT (sortB ks)) = (ss.mergeSort (fun x y => decide (x ≤ y))).map fun x => TV.lit (Go.Proofs.encStr x) := by
      rw [hsort]
      have : cellsD (dT (sortB ks)) = (sortB ks).map fun s => TV.lit (.string (st s)) := cF (fun s : Bs => Value.string (st s)) _
      rw [this, sortB, List.map_map]
      apply List.map_congr_left
      intro x _
      show TV.lit (.string (st (ofU x))) = _
      have : st (ofU x) = ⟨x.toArray⟩ := (st_mk x).symm
      rw [this]
    rcases r2.2 with ⟨rfl, hz⟩ | ⟨gb, cap, cur, rfl, hbase, hgb, s1, s2, s3, s4⟩
    · have hss : ss = [] := List.eq_nil_of_length_eq_zero hz
      have hks : ks = [] := List.eq_nil_of_length_eq_zero (by omega)
      subst hks
      obtain ⟨h', m'⟩ := hk.rel.behind r4
      obtain ⟨c', h1, h2, h3, h4⟩ := h'.virtual' (.cells K []) (.inr ⟨K, rfl⟩)
      have hlt : S.n < c'.n := by rw [h1.cn, TS.push_n]; omega
      exact ⟨_, c', _, hk.step h1 (m'.trans h2), m'.trans h2, .vsN _ _ _ _ hlt, rfl, by first | (rw [show sortB [] = [] from by simp [sortB]]; rfl) | (rw [show sortZ [] = [] from by simp [sortZ]]; rfl)⟩
    · have hl2 : (cellsD (dT (sortB ks))).length = ss.length := by rw [hcs]; simp
      obtain ⟨c', h1, h2, h3⟩ := hk.rel.adopt r4 hbase hgb (cellsD (dT (sortB ks))) (by rw [hl2]; omega) (fun j x hx => by
        rw [hcs, List.getElem?_map] at hx
        obtain ⟨y, hy, rfl⟩ := Option.map_eq_some_iff.1 hx
        refine ⟨_, ?_, rfl⟩
        have hj : j < ss.length := by have := (List.getElem?_eq_some_iff.1 hy).1; simpa using this
        have : (cur.toList.take (ss.length * 1))[j]? = some (Go.Proofs.encStr y) := by rw [s4, List.getElem?_map, hy]; rfl
        rw [List.getElem?_take, if_pos (by omega), Array.getElem?_toList] at this
        exact this)
      refine ⟨_, c', _, hk.step h1 h2, h2, ?_, rfl, rfl⟩
      rw [← hlen]
      have := RdT.vs (c := c') (w := w') S.n 0 1 ss.length cap gb (0, cur.size) h3 s1 (by show 0 + 0 + cap * 1 ≤ cur.size; omega)
      exact this
def sortZ (l : List Int) : List Int := l.mergeSort fun x y => decide (x ≤ y)
end Go.Proofs.YtlljknmojafkoaaGreatDoor.TL
namespace Go.Proofs.YtlljknmojafkoaaGreatDoor.TL
open Go.RowKit
/-- The same datum, where empty slices may be of another element. -/
inductive De : D → D → Prop
  | refl (t : D) : De t t
  | sl0 (s s' : Nat) : De (.sl s []) (.sl s' [])
  | sl (s : Nat) (xs xs' : List D) (hl : xs'.length = xs.length) (h : ∀ (j : Nat) t t', xs[j]? = some t → xs'[j]? = some t' → De t t') : De (.sl s xs) (.sl s xs')
  | agg (cs cs' : List D) (hl : cs'.length = cs.length) (h : ∀ (j : Nat) t t', cs[j]? = some t → cs'[j]? = some t' → De t t') : De (.agg cs) (.agg cs')
theorem De.isAgg {t t' : D} (h : De t t') : t'.isAgg = t.isAgg := by cases h <;> rfl
theorem De.ok {A : Nat → Nat → Prop} {w : World} {t : D} {x : Tgt} (h : RdD A w t x) : ∀ {t' : D}, De t t' → RdD A w t' x := by
  induction h with
  | lit v => intro t' h; cases h; exact .lit v
  | agg cs vs hl h0 ih =>
    intro t' h
    cases h with
    | refl => exact .agg cs vs hl h0
    | agg _ cs' hl' hd =>
      refine .agg cs' vs (by omega) fun j t v h1 h2 => ?_
      have hj : j < cs.length := by rw [← hl']; exact (List.getElem?_eq_some_iff.1 h1).1
      exact ih j _ v (List.getElem?_eq_getElem hj) h2 (hd j _ t (List.getElem?_eq_getElem hj) h1)
  | nil s a cap =>
    intro t' h
    cases h with
    | refl => exact .nil s a cap
    | sl0 _ s' => exact .nil s' a cap
    | sl _ _ xs' hl' _ =>
      have : xs' = [] := List.eq_nil_of_length_eq_zero (by simpa using hl')
      subst this; exact .nil s a cap
  | sl s xs b o n cap hn hc hm h0 ih =>
    intro t' h
    cases h with
    | refl => exact .sl s xs b o n cap hn hc hm h0
    | sl0 _ s' => cases hn; exact .nil s' _ cap
    | sl _ _ xs' hl' hd =>
      refine .sl s xs' b o n cap (by omega) hc hm fun j t h1 => ?_
      have hj : j < xs.length := by rw [← hl']; exact (List.getElem?_eq_some_iff.1 h1).1
      exact ih j _ (List.getElem?_eq_getElem hj) (hd j _ t (List.getElem?_eq_getElem hj) h1)
  | one t b o v hna hA hc h1 h0 ih =>
    intro t' h
    exact .one t' b o v (by rw [h.isAgg]; exact hna) hA hc h1 (ih h)
  | aggAt cs b o hna h0 ih =>
    intro t' h
    cases h with
    | refl => exact .aggAt cs b o hna h0
    | agg _ cs' hl' hd =>
      have := RdD.aggAt (A := A) (w := w) cs' b o (fun j t h1 => by
        have hj : j < cs.length := by rw [← hl']; exact (List.getElem?_eq_some_iff.1 h1).1
        rw [(hd j _ t (List.getElem?_eq_getElem hj) h1).isAgg]
        exact hna j _ (List.getElem?_eq_getElem hj)) fun j t h1 => by
        have hj : j < cs.length := by rw [← hl']; exact (List.getElem?_eq_some_iff.1 h1).1
        exact ih j _ (List.getElem?_eq_getElem hj) (hd j _ t (List.getElem?_eq_getElem hj) h1)
      rw [hl'] at this
      exact this
inductive DeL : List D → List D → Prop
  | nil : DeL [] []
  | cons {x y : D} {a b : List D} (h : De x y) (h2 : DeL a b) : DeL (x :: a) (y :: b)
theorem DeL.ok {a b : List D} (h : DeL a b) : b.length = a.length ∧ ∀ (j : Nat) t t', a[j]? = some t → b[j]? = some t' → De t t' := by
  induction h with
  | nil => exact ⟨rfl, fun j t t' h => by simp at h⟩
  | cons h1 _ ih =>
    refine ⟨by simp [ih.1], fun j t t' k1 k2 => ?_⟩
    cases j with
    | zero => simp at k1 k2; subst k1 k2; exact h1
    | succ j => exact ih.2 j t t' (by simpa using k1) (by simpa using k2)
theorem De.aggF {a b : List D} (h : DeL a b) : De (.agg a) (.agg b) := .agg _ _ h.ok.1 h.ok.2
theorem De.slF {s : Nat} {a b : List D} (h : DeL a b) : De (.sl s a) (.sl s b) := .sl _ _ _ h.ok.1 h.ok.2
/-- Values that read in another way, too. -/
inductive Cv : TV → TV → Prop
  | refl (t : TV) : Cv t t
  | dg {t t' : TV} (h : Dg t t') : Cv t t'
  | sl (g : Tag) {s : Nat} {xs xs' : List D} (h : DeL xs xs') : Cv (.sl g s xs) (.sl .none s xs')
theorem Cv.ok {c : Cx} {w : World} {t t' : TV} (h : Cv t t') {v : Value} (hr : RdT c w t v) : RdT c w t' v := by
  cases h with
  | refl => exact hr
  | dg h => exact h.ok hr
  | sl g h =>
    cases hr with
    | sl _ _ _ _ h1 hg => exact .sl _ _ _ _ (De.ok h1 (De.slF h)) trivial
inductive CvL : List TV → List TV → Prop
  | nil : CvL [] []
  | cons {x y : TV} {a b : List TV} (h : Cv x y) (h2 : CvL a b) : CvL (x :: a) (y :: b)
theorem CvL.ok {a b : List TV} (h : CvL a b) : b.length = a.length ∧ ∀ (j : Nat) t t', a[j]? = some t → b[j]? = some t' → Cv t t' := by
  induction h with
  | nil => exact ⟨rfl, fun j t t' h => by simp at h⟩
  | cons h1 _ ih =>
    refine ⟨by simp [ih.1], fun j t t' k1 k2 => ?_⟩
    cases j with
    | zero => simp at k1 k2; subst k1 k2; exact h1
    | succ j => exact ih.2 j t t' (by simpa using k1) (by simpa using k2)
theorem TCall.conv {E : Env} {f : FuncId} {args b : List TV} {S : TS} {K : TV → TS → Prop} (h : CvL args b) (hc : TCall E f b S K) : TCall E f args S K := by
  intro w0 c w vs hk hv
  obtain ⟨h1, h2⟩ := h.ok
  refine hc w0 c w vs hk ⟨by rw [h1]; exact hv.size, fun j t v g1 g2 => ?_⟩
  have hj : j < args.length := by rw [← h1]; exact (List.getElem?_eq_some_iff.1 g1).1
  exact (h2 j _ t (List.getElem?_eq_getElem hj) g1).ok (hv.rd j _ v (List.getElem?_eq_getElem hj) g2)
theorem TWp.conv (i : Nat) {t : TV} {E : Env} {N : Nat} {code : Code} {Q : Exit → (Nat → TV) → TS → Prop} {T : Nat → TV} {S : TS} (h : Cv (T i) t) (hw : TWp E N code Q (upd T i t) S) : TWp E N code Q T S := by
  refine TWp.ghost (T' := upd T i t) (S' := S) (fun w0 c w hk => ⟨c, hk.rel, Mono.refl _ _, fun j v hv => ?_⟩) hw
  unfold upd
  split
  · rename_i hji; subst hji; exact h.ok hv
  · exact hv
theorem loW.conv (i : Nat) {t : TV} {E : Env} {N : Nat} {c : Code} {p : Pin c} {Q : Exit → (Nat → TV) → TS → Prop} {T : Nat → TV} {S : TS} (h : Cv (T i) t) (hw : loW E N c p Q (upd T i t) S) : loW E N c p Q T S := TWp.conv i h hw
end Go.Proofs.YtlljknmojafkoaaGreatDoor.TL
namespace Go.Proofs
open Go.Shelf
def Tryz.sdS_ren : Go.Shelf.Ren := ⟨fun | 6 => 113 | 8 => 157 | 9 => 136 | 11 => 197 | 13 => 183 | 12 => 182 | 23 => 223 | 24 => 224 | 14 => 214 | 15 => 215 | 16 => 216 | 17 => 217 | 18 => 218 | 19 => 219 | 20 => 220 | 21 => 221 | 22 => 222 | 25 => 248 | 26 => 249 | 27 => 250 | 28 => 251 | 29 => 252 | 30 => 253 | 31 => 263 | n => n, fun | 26 => 9 | 28 => 170 | 24 => 29 | 0 => 0 | 3 => 3 | 37 => 160 | 48 => 158 | 50 => 30 | 4 => 4 | 40 => 252 | 39 => 251 | 45 => 257 | 5 => 5 | 9 => 9 | 51 => 282 | 55 => 188 | 57 => 291 | 58 => 292 | 33 => 69 | n => n, fun | n => n⟩
theorem Tryz.sdS : Go.Proofs.SlLaysZ.n6 Tryz.prog Tryz.sdS_ren := {
  mixed := by kernel_rfl
  f6 := ⟨Tryz.f113.name, by decide, Tryz.func113.trans (congrArg some (by kernel_rfl))⟩
  f8 := ⟨Tryz.f157.name, by decide, Tryz.func157.trans (congrArg some (by kernel_rfl))⟩
  f11 := ⟨Tryz.f197.name, by decide, Tryz.func197.trans (congrArg some (by kernel_rfl))⟩
  t0 := Tryz.underlying0
  a0 := Tryz.isAgg0
  z0 := Tryz.sizeOf0
  v0 := Tryz.zeroValue0
  t24 := Tryz.underlying29
  a24 := Tryz.isAgg29
  z24 := Tryz.sizeOf29
  v24 := Tryz.zeroValue29
  t26 := Tryz.underlying9
  a26 := Tryz.isAgg9
  z26 := Tryz.sizeOf9
  v26 := Tryz.zeroValue9
  t28 := Tryz.underlying170
  a28 := Tryz.isAgg170
  z28 := Tryz.sizeOf170
  v28 := Tryz.zeroValue170
  i26 := by kernel_rfl }
def Tryz.soS_ren : Go.Shelf.Ren := ⟨fun | 6 => 136 | 8 => 183 | 9 => 182 | 19 => 223 | 20 => 224 | 21 => 214 | 22 => 215 | 23 => 216 | 24 => 217 | 25 => 218 | 26 => 219 | 27 => 220 | 28 => 221 | 29 => 222 | 36 => 248 | 31 => 249 | 32 => 250 | 37 => 251 | 38 => 252 | 39 => 253 | 41 => 263 | n => n, fun | 27 => 29 | 29 => 9 | 3 => 3 | 32 => 160 | 26 => 29 | 0 => 0 | 44 => 158 | 46 => 30 | 4 => 4 | 36 => 252 | 35 => 251 | 41 => 257 | 5 => 5 | 9 => 9 | 53 => 282 | 57 => 188 | 63 => 291 | 64 => 292 | n => n, fun | n => n⟩
theorem Tryz.soS : Go.Proofs.SlLaysM.n6 Tryz.prog Tryz.soS_ren := {
  mixed := by kernel_rfl
  f6 := ⟨Tryz.f136.name, by decide, Tryz.func136.trans (congrArg some (by kernel_rfl))⟩
  f8 := Tryz.func183.trans (congrArg some (by kernel_rfl))
  f9 := ⟨Tryz.f182.name, by decide, Tryz.func182.trans (congrArg some (by kernel_rfl))⟩
  f19 := Tryz.func223.trans (congrArg some (by kernel_rfl))
  f20 := Tryz.func224.trans (congrArg some (by kernel_rfl))
  f21 := ⟨Tryz.f214.name, by decide, Tryz.func214.trans (congrArg some (by kernel_rfl))⟩
  f22 := ⟨Tryz.f215.name, by decide, Tryz.func215.trans (congrArg some (by kernel_rfl))⟩
  f23 := ⟨Tryz.f216.name, by decide, Tryz.func216.trans (congrArg some (by kernel_rfl))⟩
  f24 := ⟨Tryz.f217.name, by decide, Tryz.func217.trans (congrArg some (by kernel_rfl))⟩
  f25 := ⟨Tryz.f218.name, by decide, Tryz.func218.trans (congrArg some (by kernel_rfl))⟩
  f26 := ⟨Tryz.f219.name, by decide, Tryz.func219.trans (congrArg some (by kernel_rfl))⟩
  f27 := ⟨Tryz.f220.name, by decide, Tryz.func220.trans (congrArg some (by kernel_rfl))⟩
  f28 := ⟨Tryz.f221.name, by decide, Tryz.func221.trans (congrArg some (by kernel_rfl))⟩
  f29 := ⟨Tryz.f222.name, by decide, Tryz.func222.trans (congrArg some (by kernel_rfl))⟩
  f31 := Tryz.func249.trans (congrArg some (by kernel_rfl))
  f32 := Tryz.func250.trans (congrArg some (by kernel_rfl))
  f36 := ⟨Tryz.f248.name, by decide, Tryz.func248.trans (congrArg some (by kernel_rfl))⟩
  f37 := ⟨Tryz.f251.name, by decide, Tryz.func251.trans (congrArg some (by kernel_rfl))⟩
  f38 := ⟨Tryz.f252.name, by decide, Tryz.func252.trans (congrArg some (by kernel_rfl))⟩
  f39 := ⟨Tryz.f253.name, by decide, Tryz.func253.trans (congrArg some (by kernel_rfl))⟩
  f41 := ⟨Tryz.f263.name, by decide, Tryz.func263.trans (congrArg some (by kernel_rfl))⟩
  t0 := Tryz.underlying0
  a0 := Tryz.isAgg0
  z0 := Tryz.sizeOf0
  v0 := Tryz.zeroValue0
  t3 := Tryz.underlying3
  a3 := Tryz.isAgg3
  z3 := Tryz.sizeOf3
  v3 := Tryz.zeroValue3
  t4 := Tryz.underlying4
  a4 := Tryz.isAgg4
  z4 := Tryz.sizeOf4
  v4 := Tryz.zeroValue4
  t5 := Tryz.underlying5
  a5 := Tryz.isAgg5
  z5 := Tryz.sizeOf5
  v5 := Tryz.zeroValue5
  t9 := Tryz.underlying9
  a9 := Tryz.isAgg9
  z9 := Tryz.sizeOf9
  v9 := Tryz.zeroValue9
  t26 := Tryz.underlying29
  a26 := Tryz.isAgg29
  z26 := Tryz.sizeOf29
  v26 := Tryz.zeroValue29
  t27 := Tryz.underlying29
  a27 := Tryz.isAgg29
  z27 := Tryz.sizeOf29
  v27 := Tryz.zeroValue29
  t29 := Tryz.underlying9
  a29 := Tryz.isAgg9
  z29 := Tryz.sizeOf9
  v29 := Tryz.zeroValue9
  t32 := Tryz.underlying160
  a32 := Tryz.isAgg160
  z32 := Tryz.sizeOf160
  v32 := Tryz.zeroValue160
  t35 := Tryz.underlying251
  a35 := Tryz.isAgg251
  z35 := Tryz.sizeOf251
  v35 := Tryz.zeroValue251
  t36 := Tryz.underlying252
  a36 := Tryz.isAgg252
  z36 := Tryz.sizeOf252
  v36 := Tryz.zeroValue252
  t41 := Tryz.underlying257
  a41 := Tryz.isAgg257
  z41 := Tryz.sizeOf257
  v41 := Tryz.zeroValue257
  t44 := Tryz.underlying158
  a44 := Tryz.isAgg158
  z44 := Tryz.sizeOf158
  v44 := Tryz.zeroValue158
  t46 := Tryz.underlying30
  a46 := Tryz.isAgg30
  z46 := Tryz.sizeOf30
  v46 := Tryz.zeroValue30
  t53 := Tryz.underlying282
  a53 := Tryz.isAgg282
  z53 := Tryz.sizeOf282
  v53 := Tryz.zeroValue282
  t57 := Tryz.underlying188
  a57 := Tryz.isAgg188
  z57 := Tryz.sizeOf188
  v57 := Tryz.zeroValue188
  t63 := Tryz.underlying291
  a63 := Tryz.isAgg291
  z63 := Tryz.sizeOf291
  v63 := Tryz.zeroValue291
  t64 := Tryz.underlying292
  a64 := Tryz.isAgg292
  z64 := Tryz.sizeOf292
  v64 := Tryz.zeroValue292 }
def Tryz.kRow_ren : Go.Shelf.Ren := ⟨fun | 7 => 114 | 10 => 158 | n => n, fun | 23 => 149 | 26 => 9 | 3 => 40 | 28 => 170 | 0 => 0 | 27 => 169 | 33 => 69 | 4 => 4 | n => n, fun | n => n⟩
theorem Tryz.kRow : Go.Proofs.SlLaysZ.n7 Tryz.prog Tryz.kRow_ren := {
  mixed := by kernel_rfl
  f7 := ⟨Tryz.f114.name, by decide, Tryz.func114.trans (congrArg some (by kernel_rfl))⟩
  f10 := ⟨Tryz.f158.name, by decide, Tryz.func158.trans (congrArg some (by kernel_rfl))⟩
  t0 := Tryz.underlying0
  a0 := Tryz.isAgg0
  z0 := Tryz.sizeOf0
  v0 := Tryz.zeroValue0
  t4 := Tryz.underlying4
  a4 := Tryz.isAgg4
  z4 := Tryz.sizeOf4
  v4 := Tryz.zeroValue4
  t23 := Tryz.underlying149
  a23 := Tryz.isAgg149
  z23 := Tryz.sizeOf149
  v23 := Tryz.zeroValue149
  t26 := Tryz.underlying9
  a26 := Tryz.isAgg9
  z26 := Tryz.sizeOf9
  v26 := Tryz.zeroValue9
  t27 := Tryz.underlying169
  a27 := Tryz.isAgg169
  z27 := Tryz.sizeOf169
  v27 := Tryz.zeroValue169
  t28 := Tryz.underlying170
  a28 := Tryz.isAgg170
  z28 := Tryz.sizeOf170
  v28 := Tryz.zeroValue170
  t33 := Tryz.underlying69
  a33 := Tryz.isAgg69
  z33 := Tryz.sizeOf69
  v33 := Tryz.zeroValue69 }
def Tryz.kSet_ren : Go.Shelf.Ren := ⟨fun | 7 => 146 | 10 => 193 | n => n, fun | 23 => 91 | 26 => 9 | 3 => 4 | 28 => 170 | 0 => 0 | 27 => 169 | 33 => 69 | 4 => 4 | n => n, fun | n => n⟩
theorem Tryz.kSet : Go.Proofs.SlLaysZ.n7 Tryz.prog Tryz.kSet_ren := {
  mixed := by kernel_rfl
  f7 := ⟨Tryz.f146.name, by decide, Tryz.func146.trans (congrArg some (by kernel_rfl))⟩
  f10 := ⟨Tryz.f193.name, by decide, Tryz.func193.trans (congrArg some (by kernel_rfl))⟩
  t0 := Tryz.underlying0
  a0 := Tryz.isAgg0
  z0 := Tryz.sizeOf0
  v0 := Tryz.zeroValue0
  t4 := Tryz.underlying4
  a4 := Tryz.isAgg4
  z4 := Tryz.sizeOf4
  v4 := Tryz.zeroValue4
  t23 := Tryz.underlying91
  a23 := Tryz.isAgg91
  z23 := Tryz.sizeOf91
  v23 := Tryz.zeroValue91
  t26 := Tryz.underlying9
  a26 := Tryz.isAgg9
  z26 := Tryz.sizeOf9
  v26 := Tryz.zeroValue9
  t27 := Tryz.underlying169
  a27 := Tryz.isAgg169
  z27 := Tryz.sizeOf169
  v27 := Tryz.zeroValue169
  t28 := Tryz.underlying170
  a28 := Tryz.isAgg170
  z28 := Tryz.sizeOf170
  v28 := Tryz.zeroValue170
  t33 := Tryz.underlying69
  a33 := Tryz.isAgg69
  z33 := Tryz.sizeOf69
  v33 := Tryz.zeroValue69 }
end Go.Proofs
namespace Go.Proofs.YtlljknmojafkoaaGreatDoor
open Go.RowKit TL
structure Wr (S : TS) (w k : Nat) (xs : Bs) : Prop where
  o : S.objs w = .cells 234 [.sl (.own k) 1 (dB xs)]
  r : S.objs k = .lin
  lw : w < S.n
  lk : k < S.n
  ne : w ≠ k
theorem Wr.fr {S S' : TS} {w k : Nat} {xs : Bs} {L : List Nat} (h : Wr S w k xs) (f : Fr S S' L) (hw : w ∉ L := by simp) (hk : k ∉ L := by simp) : Wr S' w k xs :=
  ⟨(f.o w h.lw hw).trans h.o, (f.o k h.lk hk).trans h.r, Nat.lt_of_lt_of_le h.lw f.n, Nat.lt_of_lt_of_le h.lk f.n, h.ne⟩
theorem Wr.push {S : TS} {w k : Nat} {xs : Bs} (h : Wr S w k xs) (o : TObj) : Wr (S.push o) w k xs := h.fr ((Fr.refl S []).push o)
/-- The writer's bytes behind a step; what else is there is as it was. -/
structure WrTo (S S' : TS) (w k k' : Nat) (xs : Bs) : Prop where
  wr : Wr S' w k' xs
  fr : Fr S S' [w, k]
  nk : k' = k ∨ S.n ≤ k'
theorem WrTo.refl {S : TS} {w k : Nat} {xs : Bs} (h : Wr S w k xs) : WrTo S S w k k xs := ⟨h, .refl _ _, .inl rfl⟩
theorem WrTo.push {S S' : TS} {w k k' : Nat} {xs : Bs} (h : WrTo S S' w k k' xs) (o : TObj) : WrTo S (S'.push o) w k k' xs := ⟨h.wr.push o, h.fr.push o, h.nk⟩
theorem WrTo.trans {S S1 S2 : TS} {w k k1 k2 : Nat} {xs ys : Bs} (h : WrTo S S1 w k k1 xs) (g : WrTo S1 S2 w k1 k2 ys) : WrTo S S2 w k k2 ys := by
  have h1 := h.nk; have h2 := g.nk; have h3 := h.fr.n
  refine ⟨g.wr, h.fr.trans g.fr fun x hx => ?_, by omega⟩
  simp at hx ⊢
  omega
set_option maxRecDepth 8000 in
set_option maxHeartbeats 1000000 in
theorem c_Writer_lay {S : TS} {w k : Nat} {g : Tag} {xs p : Bs} {K : TV → TS → Prop} (hW : Wr S w k xs) (hK : ∀ S' k', WrTo S S' w k k' (xs ++ p) → K (.ptr w 0) S') (hl : xs.length ≤ 1000000 := by omega) (hp : p.length ≤ 1000000 := by omega) :
    TCall env 233 [.ptr w 0, .sl g 1 (dB p)] S K := by
  refine TCall.w 17 [.tmp 4] Tryz.func233 rfl rfl rfl rfl (by kernel_rfl) rfl ?_
  have ⟨h1, h2, h3, h4, h5⟩ := hW
  simp -implicitDefEqProofs (disch := omega) only [seval, go_sem, h1, h2]
  refine hK _ S.n ⟨⟨?_, ?_, ?_, ?_, ?_⟩, ((Fr.refl S _).set (by simp) _).set (by simp) _ |>.push _, .inr (Nat.le_refl _)⟩
  · simp -implicitDefEqProofs (disch := omega) only [seval, go_sem, dB_app]
  · simp -implicitDefEqProofs (disch := omega) only [seval, go_sem]
  · simp -implicitDefEqProofs (disch := omega) only [seval, go_sem] <;> omega
  · simp -implicitDefEqProofs (disch := omega) only [seval, go_sem] <;> omega
  · omega
set_option maxRecDepth 8000 in
set_option maxHeartbeats 1000000 in
theorem c_Writer_Byte {S : TS} {w k : Nat} {xs : Bs} {b : BitVec 8} {K : TV → TS → Prop} (hW : Wr S w k xs) (hK : ∀ S' k', WrTo S S' w k k' (xs ++ [b]) → K (.ptr w 0) S') (hl : xs.length ≤ 1000000 := by omega) :
    TCall env 234 [.ptr w 0, .lit (w8 b)] S K := by
  refine TCall.w 9 [.tmp 4] Tryz.func234 rfl rfl rfl rfl (by kernel_rfl) rfl ?_
  simp -implicitDefEqProofs (disch := omega) only [seval, go_sem]
  refine c_Writer_lay (p := [b]) hW (fun S' k' h1 => ?_) hl (by simp)
  simp -implicitDefEqProofs (disch := omega) only [seval, go_sem]
  exact hK _ _ h1
/-- A number's two bytes. -/
def num2 (n : Nat) : Bs := [BitVec.ofNat 8 (n >>> 8), BitVec.ofNat 8 n]
theorem num2_len (n : Nat) : (num2 n).length = 2 := rfl
set_option maxRecDepth 8000 in
set_option maxHeartbeats 1000000 in
theorem c_Writer_Num {S : TS} {w k n : Nat} {xs : Bs} {K : TV → TS → Prop} (hW : Wr S w k xs) (hK : ∀ S' k', WrTo S S' w k k' (xs ++ num2 n) → K (.ptr w 0) S') (hl : xs.length ≤ 1000000 := by omega) (hn : n ≤ 1000000 := by omega) :
    TCall env 232 [.ptr w 0, .lit (.int .i64 (n : Int))] S K := by
  refine TCall.w 13 [.tmp 4] Tryz.func232 rfl rfl rfl rfl (by kernel_rfl) rfl ?_
  simp -implicitDefEqProofs (disch := omega) only [seval, go_sem]
  refine c_Writer_lay (p := num2 n) hW (fun S' k' h1 => ?_) (by omega) (by simp [num2])
  simp -implicitDefEqProofs (disch := omega) only [seval, go_sem]
  exact hK _ _ h1
def text2 (s : Bs) : Bs := num2 s.length ++ s
theorem text2_len (s : Bs) : (text2 s).length = 2 + s.length := by simp [text2, num2_len]
set_option maxRecDepth 8000 in
set_option maxHeartbeats 1000000 in
theorem c_Writer_Text {S : TS} {w k : Nat} {xs s : Bs} {K : TV → TS → Prop} (hW : Wr S w k xs) (hK : ∀ S' k', WrTo S S' w k k' (xs ++ text2 s) → K (.ptr w 0) S') (hl : xs.length ≤ 900000 := by omega) (hs : s.length ≤ 1000000 := by omega) :
    TCall env 187 [.ptr w 0, .lit (.string (st s))] S K := by
  refine TCall.w 12 [.tmp 4] Tryz.func187 rfl rfl rfl rfl (by kernel_rfl) rfl ?_
  simp -implicitDefEqProofs (disch := omega) only [seval, go_sem]
  refine c_Writer_Num hW (fun S' k' h1 => ?_)
  simp -implicitDefEqProofs (disch := omega) only [seval, go_sem]
  refine c_Writer_lay (h1.push _).wr (fun S'' k'' h2 => ?_) (by simp [num2_len]; omega)
  simp -implicitDefEqProofs (disch := omega) only [seval, go_sem]
  exact hK _ _ (by rw [text2, ← List.append_assoc]; exact (h1.push _).trans h2)
def texts2 (l : List Bs) : Bs := BitVec.ofNat 8 l.length :: l.flatMap text2
theorem take_succ_D {α : Type} (l : List α) {i : Nat} (d : α) (h : i < l.length) : l.take (i + 1) = l.take i ++ [l.getD i d] := by
  rw [List.take_add_one, List.getD_eq_getElem?_getD, List.getElem?_eq_getElem h]; rfl
theorem getD_mem {α : Type} {l : List α} {i : Nat} {d : α} (h : i < l.length) : l.getD i d ∈ l := by
  rw [List.getD_eq_getElem?_getD, List.getElem?_eq_getElem h]; exact List.getElem_mem h
theorem texts2_len (l : List Bs) : (texts2 l).length = 1 + (l.flatMap text2).length := by simp [texts2, Nat.add_comm]
theorem texts2_ge (l : List Bs) : l.length ≤ (texts2 l).length := by
  rw [texts2_len]
  induction l with
  | nil => simp
  | cons y l ih => rw [List.flatMap_cons, List.length_append, text2_len, List.length_cons]; omega
theorem text_in {l : List Bs} {x : Bs} (h : x ∈ l) : x.length + 3 ≤ (texts2 l).length := by
  rw [texts2_len]
  induction l with
  | nil => cases h
  | cons y l ih =>
    rw [List.flatMap_cons, List.length_append, text2_len]
    rcases List.mem_cons.1 h with rfl | h
    · omega
    · have := ih h; omega
theorem take_texts (l : List Bs) (i : Nat) : ((l.take i).flatMap text2).length + 1 ≤ (texts2 l).length := by
  rw [texts2_len]
  induction l generalizing i with
  | nil => simp
  | cons y l ih =>
    cases i with
    | zero => simp
    | succ i => have := ih i; simp only [List.take_succ_cons, List.flatMap_cons, List.length_append] at *; omega
set_option maxRecDepth 8000 in
set_option maxHeartbeats 1000000 in
theorem c_Writer_Texts {S : TS} {w k : Nat} {g : Tag} {xs : Bs} {l : List Bs} {K : TV → TS → Prop} (hW : Wr S w k xs) (hK : ∀ S' k', WrTo S S' w k k' (xs ++ texts2 l) → K (.ptr w 0) S') (hl : xs.length + (texts2 l).length ≤ 900000 := by omega) :
    TCall env 188 [.ptr w 0, .sl g 1 (dT l)] S K := by
  refine TCall.w 23 [.tmp 4] Tryz.func188 rfl rfl rfl rfl (by kernel_rfl) rfl ?_
  simp -implicitDefEqProofs (disch := omega) only [seval, go_sem]
  refine c_Writer_Byte hW (fun S0 k0 hw0 => ?_) (by omega)
  simp -implicitDefEqProofs (disch := omega) only [seval, go_sem]
  refine loW_inv (fun n T S' => ∃ i k', n + i = l.length ∧ T 0 = .ptr w 0 ∧ T 12 = .sl g 1 (dT l) ∧ T 13 = .lit (.int .i64 (l.length : Int)) ∧ T 14 = .lit (.int .i64 (i : Int)) ∧ WrTo S S' w k k' (xs ++ BitVec.ofNat 8 l.length :: (l.take i).flatMap text2)) l.length ?_ ?_
  · exact ⟨0, k0, rfl, rfl, rfl, rfl, rfl, hw0⟩
  rintro n T S' ⟨i, k', hi, h0, h12, h13, h14, hw⟩
  simp -implicitDefEqProofs (disch := omega) only [seval, go_sem, h0, h12, h13, h14]
  refine cdK_d (fun hb => ?_) (fun hb => ?_)
  · simp -implicitDefEqProofs (disch := omega) only [seval, go_sem, h0, h12, h13, h14]
    have hx := take_succ_D l (i := i) [] (by omega)
    have hs := text_in (x := l.getD i []) (l := l) (getD_mem (by omega))
    have ht := take_texts l i
    refine c_Writer_Text hw.wr (fun S2 k2 h2 => ?_) (by simp only [List.length_append, List.length_cons]; omega) (by omega)
    have hll := texts2_ge l
    simp -implicitDefEqProofs (disch := omega) only [seval, go_sem, h0, h12, h13, h14]
    exact ⟨n - 1, by omega, i + 1, k2, by omega, h0, h12, h13, rfl, by rw [hx, List.flatMap_append]; simpa using hw.trans h2⟩
  · simp -implicitDefEqProofs (disch := omega) only [seval, go_sem, h0, h12, h13, h14]
    have hi : l.length ≤ i := by omega
    rw [List.take_of_length_le hi] at hw
    exact hK _ _ hw
set_option maxRecDepth 8000 in
set_option maxHeartbeats 1000000 in
theorem c_bytes_Clone {S : TS} {g : Tag} {p : Bs} {K : TV → TS → Prop} (hK : K (.sl (.own S.n) 1 (dB p)) (S.push .lin)) (hp : p.length ≤ 1000000 := by omega) :
    TCall env 155 [.sl g 1 (dB p)] S K := by
  refine (TCall.rowE (s := 1) (xs := dB p) ?_).mono fun t S' ⟨h1, h2⟩ => by rw [h1, h2]; exact hK
  refine TCall.w 8 [.tmp 2] Tryz.func155 rfl rfl rfl rfl (by kernel_rfl) rfl ?_
  simp -implicitDefEqProofs (disch := omega) only [seval, go_sem]
  exact ⟨fun h => ⟨.inr ⟨h, 0, rfl⟩, Keep.refl _⟩, .inl ⟨S.n, rfl, Nat.le_refl _, push_self _ _⟩, Keep.push _ _⟩
set_option maxRecDepth 8000 in
set_option maxHeartbeats 1000000 in
theorem c_Writer_Bytes {S : TS} {w k : Nat} {xs : Bs} {K : TV → TS → Prop} (hW : Wr S w k xs) (hK : K (.sl (.own S.n) 1 (dB xs)) (S.push .lin)) (hl : xs.length ≤ 1000000 := by omega) :
    TCall env 191 [.ptr w 0] S K := by
  refine TCall.w 10 [.tmp 2] Tryz.func191 rfl rfl rfl rfl (by kernel_rfl) rfl ?_
  simp -implicitDefEqProofs (disch := omega) only [seval, go_sem, hW.o]
  refine c_bytes_Clone ?_
  simp -implicitDefEqProofs (disch := omega) only [seval, go_sem]
  exact hK
end Go.Proofs.YtlljknmojafkoaaGreatDoor
namespace Go.Proofs.YtlljknmojafkoaaGreatDoor
open Go.RowKit TL
/-! ### plain law -/
theorem bitsN_add (p : Bs) (i a : Nat) : ∀ b, bitsN p i (a + b) = bitsN p i a * 2 ^ b + bitsN p (i + a) b
  | 0 => by simp [bitsN]
  | b + 1 => by
    rw [← Nat.add_assoc, bitsN, bitsN_add p i a b, bitsN, Nat.pow_succ, ← Nat.add_assoc]
    have : bitsN p i a * (2 ^ b * 2) = 2 * (bitsN p i a * 2 ^ b) := by rw [← Nat.mul_assoc, Nat.mul_comm]
    omega
theorem bitsN_byte (p : Bs) (i : Nat) (h : i < p.length) : bitsN p (8 * i) 8 = (p.getD i 0#8).toNat := by
  have e : ∀ k, k < 8 → bitN p (8 * i + k) = (p.getD i 0#8).toNat / 2 ^ (7 - k) % 2 := by
    intro k hk
    unfold bitN
    rw [show (8 * i + k) / 8 = i by omega, show (8 * i + k) % 8 = k by omega, if_pos h, BitVec.toNat_ushiftRight, Nat.shiftRight_eq_div_pow]
  have e0 := e 0 (by omega)
  rw [Nat.add_zero] at e0
  simp only [bitsN, Nat.add_zero, e0, e 1 (by omega), e 2 (by omega), e 3 (by omega), e 4 (by omega), e 5 (by omega), e 6 (by omega), e 7 (by omega)]
  have := (p.getD i 0#8).isLt
  generalize (p.getD i 0#8).toNat = v at *
  simp only [Nat.reducePow, Nat.reduceSub]
  omega
theorem bitsN_end (p : Bs) (i : Nat) (h : 8 * p.length ≤ i) : ∀ k, bitsN p i k = 0
  | 0 => rfl
  | k + 1 => by rw [bitsN, bitsN_end p i h k, bitN, if_neg (by omega)]
theorem accT (p : Bs) (B : BitVec 64) (i j n : Nat) (h : B.toNat % 2 ^ n = bitsN p (5 * j) n) (hn : 5 * j + n = 8 * i) (hi : i < p.length) (h5 : n ≤ 5) :
    (B <<< 8 ||| BitVec.setWidth 64 (p.getD i 0#8)).toNat % 2 ^ (n + 8) = bitsN p (5 * j) (n + 8) := by
  rw [← BitVec.ofNat_toNat]
  rw [bitsN_add, hn, bitsN_byte p i hi, ← h, BitVec.toNat_or, BitVec.toNat_shiftLeft, BitVec.toNat_ofNat]
  have hb := (p.getD i 0#8).isLt
  generalize (p.getD i 0#8).toNat = v at *
  rw [Nat.mod_eq_of_lt (a := v) (by omega), Nat.shiftLeft_eq]
  have hd : B.toNat * 2 ^ 8 % 2 ^ 64 = 2 ^ 8 * (B.toNat % 2 ^ 56) := by omega
  rw [hd, ← Nat.two_pow_add_eq_or_of_lt (i := 8) (by omega)]
  have hp : 2 ^ (n + 8) = 2 ^ 8 * 2 ^ n := by rw [Nat.add_comm, Nat.pow_add]
  have hn2 : (B.toNat % 2 ^ 56) % 2 ^ n = B.toNat % 2 ^ n := Nat.mod_mod_of_dvd _ (Nat.pow_dvd_pow 2 (by omega))
  rw [hp, Nat.mod_mul, Nat.mul_add_mod, Nat.mod_eq_of_lt (a := v) (by omega), Nat.mul_add_div (by decide), Nat.div_eq_of_lt (a := v) (by omega), Nat.add_zero, hn2]
  omega
theorem split_pow {r q b l M : Nat} (h : r + M * q = b * M + l) (hr : r < M) (hl : l < M) : q = b ∧ r = l := by
  have h1 : (r + M * q) / M = q := by rw [Nat.add_mul_div_left _ _ (by omega), Nat.div_eq_of_lt hr, Nat.zero_add]
  have h2 : (b * M + l) / M = b := by rw [Nat.mul_comm, Nat.mul_add_div (by omega), Nat.div_eq_of_lt hl, Nat.add_zero]
  have h3 : q = b := by rw [← h1, h, h2]
  subst h3
  rw [Nat.mul_comm q M] at h
  omega
theorem topT (p : Bs) (B : BitVec 64) (j n : Nat) (h : B.toNat % 2 ^ n = bitsN p (5 * j) n) (h5 : 5 ≤ n) (hn : n < 64) :
    (B >>> (n - 5) &&& 31#64).toNat = bitsN p (5 * j) 5 ∧ B.toNat % 2 ^ (n - 5) = bitsN p (5 * (j + 1)) (n - 5) := by
  obtain ⟨m, rfl⟩ : ∃ m, n = 5 + m := ⟨n - 5, by omega⟩
  rw [Nat.add_sub_cancel_left]
  rw [bitsN_add] at h
  have hl := bitsN_lt p (5 * j + 5) m
  have e : B.toNat % 2 ^ (5 + m) = B.toNat % 2 ^ m + 2 ^ m * (B.toNat / 2 ^ m % 2 ^ 5) := by rw [Nat.add_comm 5 m, Nat.pow_add, Nat.mod_mul]
  rw [e] at h
  obtain ⟨h1, h2⟩ := split_pow h (Nat.mod_lt _ (Nat.two_pow_pos m)) hl
  refine ⟨?_, h2⟩
  rw [BitVec.toNat_and, BitVec.toNat_ushiftRight, Nat.shiftRight_eq_div_pow]
  exact (Nat.and_two_pow_sub_one_eq_mod _ 5).trans h1
theorem lastT (p : Bs) (B : BitVec 64) (j n : Nat) (h : B.toNat % 2 ^ n = bitsN p (5 * j) n) (hn : 5 * j + n = 8 * p.length) (h5 : n < 5) :
    (B <<< (5 - n) &&& 31#64).toNat = bitsN p (5 * j) 5 := by
  have e : bitsN p (5 * j) 5 = bitsN p (5 * j) n * 2 ^ (5 - n) := by
    have := bitsN_add p (5 * j) n (5 - n)
    rw [show n + (5 - n) = 5 by omega, bitsN_end p (5 * j + n) (by omega) (5 - n)] at this
    exact this
  rw [e, ← h, BitVec.toNat_and, BitVec.toNat_shiftLeft, Nat.shiftLeft_eq]
  refine (Nat.and_two_pow_sub_one_eq_mod _ 5).trans ?_
  have : n = 0 ∨ n = 1 ∨ n = 2 ∨ n = 3 ∨ n = 4 := by omega
  rcases this with rfl | rfl | rfl | rfl | rfl <;> simp only [Nat.reducePow, Nat.reduceSub] <;> omega
/-! ### the walk -/
theorem set_self (S : TS) (b : Nat) : S.set b (S.objs b) = S := by
  unfold TS.set
  congr 1
  funext i
  split <;> simp_all
structure Bd (S : TS) (b k : Nat) (xs : Bs) : Prop where
  o : (S.objs b = .cells 273 [.lit (.pointer none), .vs k 0 1 xs.length]) ∨ (S.objs b = .cells 273 [.ptr b 0, .vs k 0 1 xs.length])
  r : S.objs k = .cells 5 (cellsD (dB xs))
  lb : b < S.n
  lk : k < S.n
  ne : b ≠ k
set_option maxRecDepth 8000 in
set_option maxHeartbeats 1000000 in
theorem c_Builder_copyCheck {S : TS} {b k : Nat} {xs : Bs} {K : TV → TS → Prop} (hB : Bd S b k xs) (hK : K (.tup []) (S.set b (.cells 273 [.ptr b 0, .vs k 0 1 xs.length]))) :
    TCall env 258 [.ptr b 0] S K := by
  have hlb := hB.lb
  refine TCall.w 20 [] Tryz.func258 rfl rfl rfl rfl (by kernel_rfl) rfl ?_
  rcases hB.o with ho | ho
  · simp -implicitDefEqProofs (disch := omega) only [seval, go_sem, ho]
    refine c_abi_NoEscape ?_
    simp -implicitDefEqProofs (disch := omega) only [seval, go_sem, ho]
    exact ⟨by kernel_rfl, hK⟩
  · simp -implicitDefEqProofs (disch := omega) only [seval, go_sem, ho]
    have : S.set b (.cells 273 [.ptr b 0, .vs k 0 1 xs.length]) = S := by rw [← ho]; exact set_self S b
    rw [this] at hK
    exact hK
/-- The builder's bytes behind a step. -/
structure BdTo (S S' : TS) (b k k' : Nat) (xs : Bs) : Prop where
  bd : Bd S' b k' xs
  fr : Fr S S' [b, k]
  nk : k' = k ∨ S.n ≤ k'
theorem BdTo.refl {S : TS} {w k : Nat} {xs : Bs} (h : Bd S w k xs) : BdTo S S w k k xs := ⟨h, .refl _ _, .inl rfl⟩
theorem BdTo.trans {S S1 S2 : TS} {w k k1 k2 : Nat} {xs ys : Bs} (h : BdTo S S1 w k k1 xs) (g : BdTo S1 S2 w k1 k2 ys) : BdTo S S2 w k k2 ys := by
  have h1 := h.nk; have h2 := g.nk; have h3 := h.fr.n
  refine ⟨g.bd, h.fr.trans g.fr fun x hx => ?_, by omega⟩
  simp at hx ⊢
  omega
set_option maxRecDepth 8000 in
set_option maxHeartbeats 1000000 in
theorem c_Builder_WriteByte {S : TS} {b k : Nat} {xs : Bs} {x : BitVec 8} {K : TV → TS → Prop} (hB : Bd S b k xs) (hK : ∀ S' k', BdTo S S' b k k' (xs ++ [x]) → K (.lit .nilIface) S') (hl : xs.length ≤ 1000000 := by omega) :
    TCall env 235 [.ptr b 0, .lit (w8 x)] S K := by
  have ⟨ho, hr, hlb, hlk, hne⟩ := hB
  refine TCall.w 17 [.tmp 4] Tryz.func235 rfl rfl rfl rfl (by kernel_rfl) rfl ?_
  simp -implicitDefEqProofs (disch := omega) only [seval, go_sem]
  refine c_Builder_copyCheck hB ?_
  simp -implicitDefEqProofs (disch := omega) only [seval, go_sem, hr]
  refine hK _ S.n ⟨⟨.inr ?_, ?_, ?_, ?_, ?_⟩, (((Fr.refl S _).set (by simp) _).set (by simp) _).set (by simp) _ |>.push _, .inr (Nat.le_refl _)⟩
  · simp -implicitDefEqProofs (disch := omega) only [seval, go_sem]
  · simp -implicitDefEqProofs (disch := omega) only [seval, go_sem]
    rw [dB_one]; exact congrArg _ (cB_app _ _)
  · simp -implicitDefEqProofs (disch := omega) only [seval, go_sem] <;> omega
  · simp -implicitDefEqProofs (disch := omega) only [seval, go_sem] <;> omega
  · omega
theorem cB_u8 (xs : Bs) : cellsD (dB xs) = (xs.map UInt8.ofBitVec).map fun b : UInt8 => TV.lit (.int .u8 b.toNat) := by
  induction xs with
  | nil => rfl
  | cons x xs ih => rw [List.map_cons, List.map_cons, ← ih]; rfl
set_option maxRecDepth 8000 in
set_option maxHeartbeats 1000000 in
theorem c_Builder_String {S : TS} {b k : Nat} {xs : Bs} {K : TV → TS → Prop} (hB : Bd S b k xs) (hK : K (.lit (.string (st xs))) (S.set k .gone)) (h0 : 0 < xs.length := by omega) (hl : xs.length ≤ 1000000 := by omega) :
    TCall env 236 [.ptr b 0] S K := by
  have ⟨ho, hr, hlb, hlk, hne⟩ := hB
  refine TCall.w 14 [.tmp 2] Tryz.func236 rfl rfl rfl rfl (by kernel_rfl) rfl ?_
  rcases ho with ho | ho
  all_goals
    simp -implicitDefEqProofs (disch := omega) only [seval, go_sem, ho, hr]
    refine drW_at [(0,0),(1,0),(2,0),(3,0),(4,0),(5,0),(6,0),(7,0),(8,0),(9,0),(10,2),(11,0)] followsN (by kernel_rfl) ?_
    simp -implicitDefEqProofs (disch := omega) only [seval, go_sem, ho, hr]
    exact ⟨xs.map UInt8.ofBitVec, by kernel_rfl, cB_u8 xs, by simp, by cases xs <;> simp_all, by simp; omega, by rw [List.map_map, show UInt8.toBitVec ∘ UInt8.ofBitVec = id from rfl, List.map_id]; exact hK⟩
set_option maxRecDepth 8000 in
set_option maxHeartbeats 1000000 in
theorem c_base_Text {S : TS} {g : Tag} {p : Bs} {K : TV → TS → Prop} (hK : K (.lit (.string (st (txtS p)))) S) (h0 : 0 < p.length := by omega) (hp : p.length ≤ 100000 := by omega) :
    TCall env 189 [.sl g 1 (dB p)] S K := by
  refine (TCall.pure (r := .lit (.string (st (txtS p)))) ?_ (.lit _)).mono fun t S' ⟨h1, h2⟩ => by rw [h1, h2]; exact hK
  refine TCall.w 42 [.tmp 2] Tryz.func189 rfl rfl rfl rfl (by kernel_rfl) rfl ?_
  simp -implicitDefEqProofs (disch := omega) only [seval, go_sem]
  refine loW.ghost (S' := (((S.push (.cells 273 [.lit (.pointer none), .sl .full 0 []])).push (.cells 5 [])).set S.n (.cells 273 [.lit (.pointer none), .vs (S.n + 1) 0 1 0]))) (fun w0 c w hk => hk.rel.bufCell 5 1 1 (push_self _ _) rfl) ?_
  refine loW_inv (fun n T S' => ∃ (i j m : Nat) (B : BitVec 64) (k : Nat), n + i = p.length ∧ T 3 = .ptr S.n 0 ∧ T 4 = .lit (w64 B) ∧ T 5 = .lit (.int .i64 (m : Int)) ∧ T 8 = .sl g 1 (dB p) ∧ T 9 = .lit (.int .i64 (p.length : Int)) ∧ T 10 = .lit (.int .i64 (i : Int)) ∧
    m < 5 ∧ 5 * j + m = 8 * i ∧ B.toNat % 2 ^ m = bitsN p (5 * j) m ∧ Bd S' S.n k (txtN p j) ∧ S.n ≤ k ∧ Fr S S' []) p.length ?_ ?_
  · refine ⟨0, 0, 0, 0#64, S.n + 1, rfl, rfl, rfl, rfl, rfl, rfl, rfl, by omega, rfl, rfl, ⟨.inl ?_, ?_, ?_, ?_, by omega⟩, by omega, (((Fr.refl S _).push _).push _).set (.inr (Nat.le_refl _)) _⟩
    · simp -implicitDefEqProofs (disch := omega) only [seval, go_sem]; rfl
    · simp -implicitDefEqProofs (disch := omega) only [seval, go_sem]; rfl
    · simp -implicitDefEqProofs (disch := omega) only [seval, go_sem] <;> omega
    · simp -implicitDefEqProofs (disch := omega) only [seval, go_sem] <;> omega
  rintro n T S1 ⟨i, j, m, B, k, hi, h3, h4, h5, h8, h9, h10, hm, hjm, hB, hbd, hk, hfr⟩
  simp -implicitDefEqProofs (disch := omega) only [seval, go_sem, h3, h4, h5, h8, h9, h10]
  refine cdK_d (fun hb => ?_) (fun hb => ?_)
  · have hlt : i < p.length := by omega
    simp -implicitDefEqProofs (disch := omega) only [seval, go_sem, h3, h4, h5, h8, h9, h10]
    have hacc := accT p B i j m hB hjm hlt (by omega)
    generalize (B <<< 8 ||| BitVec.setWidth 64 (p.getD i 0#8)) = B2 at hacc ⊢
    refine loW_inv (fun n T S' => ∃ (j k : Nat), T 3 = .ptr S.n 0 ∧ T 4 = .lit (w64 B2) ∧ T 5 = .lit (.int .i64 (n : Int)) ∧ T 8 = .sl g 1 (dB p) ∧ T 9 = .lit (.int .i64 (p.length : Int)) ∧ T 10 = .lit (.int .i64 (i : Int)) ∧
      n < 13 ∧ 5 * j + n = 8 * (i + 1) ∧ B2.toNat % 2 ^ n = bitsN p (5 * j) n ∧ Bd S' S.n k (txtN p j) ∧ S.n ≤ k ∧ Fr S S' []) (m + 8) ?_ ?_
    · exact ⟨j, k, h3, rfl, rfl, h8, h9, h10, by omega, by omega, hacc, hbd, hk, hfr⟩
    rintro m2 T S2 ⟨j, k, h3, h4, h5, h8, h9, h10, hm, hjm, hB, hbd, hk, hfr⟩
    simp -implicitDefEqProofs (disch := omega) only [seval, go_sem, h3, h4, h5, h8, h9, h10]
    refine cdK_d (fun hc => ?_) (fun hc => ?_)
    · have ⟨hl, hr⟩ := topT p B2 j m2 hB (by omega) (by omega)
      have hcs : (m2 : Int) - 5 = ((m2 - 5 : Nat) : Int) := by omega
      simp -implicitDefEqProofs (disch := omega) only [seval, go_sem, h3, h4, h5, h8, h9, h10, hcs]
      rw [hl]
      have h32 := bitsN_lt p (5 * j) 5
      refine ⟨by omega, c_Builder_WriteByte hbd (fun S3 k3 hto => ?_) (by rw [txtN_len]; omega)⟩
      simp -implicitDefEqProofs (disch := omega) only [seval, go_sem, h3, h4, h5, h8, h9, h10]
      have hbd' : Bd S3 S.n k3 (txtN p (j + 1)) := hto.bd
      exact ⟨m2 - 5, by omega, j + 1, k3, h3, h4, rfl, h8, h9, h10, by omega, by omega, hr, hbd', by have := hto.nk; have := hfr.n; omega, hfr.trans hto.fr (by simp; omega)⟩
    · simp -implicitDefEqProofs (disch := omega) only [seval, go_sem, h3, h4, h5, h8, h9, h10]
      exact ⟨n - 1, by omega, i + 1, j, m2, B2, k, by omega, h3, h4, h5, h8, h9, rfl, by omega, by omega, hB, hbd, hk, hfr⟩
  · have hn : i = p.length := by omega
    have hll := txtN_len p j
    simp -implicitDefEqProofs (disch := omega) only [seval, go_sem, h3, h4, h5, h8, h9, h10]
    refine cdK_d (fun hc => ?_) (fun hc => ?_)
    · have hl := lastT p B j m hB (by omega) (by omega)
      have hcs : (5 : Int) - (m : Int) = ((5 - m : Nat) : Int) := by omega
      simp -implicitDefEqProofs (disch := omega) only [seval, go_sem, h3, h4, h5, h8, h9, h10, hcs]
      rw [hl]
      have h32 := bitsN_lt p (5 * j) 5
      refine ⟨by omega, c_Builder_WriteByte hbd (fun S3 k3 hto => ?_) (by rw [txtN_len]; omega)⟩
      simp -implicitDefEqProofs (disch := omega) only [seval, go_sem, h3]
      refine c_Builder_String hto.bd ?_ (by simp) (by simp; omega)
      simp -implicitDefEqProofs (disch := omega) only [seval, go_sem]
      refine ⟨?_, ?_⟩
      · show TV.lit _ = _
        rw [txtS, show (8 * p.length + 4) / 5 = j + 1 by omega]; rfl
      · have h2 := hto.nk
        have h4 := hfr.n
        exact ((hfr.trans hto.fr (by simp; omega)).set (.inr (by omega)) _).keep
    · simp -implicitDefEqProofs (disch := omega) only [seval, go_sem, h3]
      refine c_Builder_String hbd ?_ (by omega) (by omega)
      simp -implicitDefEqProofs (disch := omega) only [seval, go_sem]
      refine ⟨?_, (hfr.set (.inr hk) _).keep⟩
      show TV.lit _ = _
      rw [txtS, show (8 * p.length + 4) / 5 = j by omega]
end Go.Proofs.YtlljknmojafkoaaGreatDoor
namespace Go.Proofs.YtlljknmojafkoaaGreatDoor
open Go.RowKit TL
theorem accB_add (bl : List Int) (o a : Nat) : ∀ b, accB bl o (a + b) = accB bl o a * 2 ^ b + accB bl (o + a) b
  | 0 => by simp [accB]
  | b + 1 => by
    rw [← Nat.add_assoc, accB, accB_add bl o a b, accB, Int.pow_succ, ← Nat.add_assoc]
    have : accB bl o a * (2 ^ b * 2) = 2 * (accB bl o a * 2 ^ b) := by rw [← Int.mul_assoc, Int.mul_comm]
    omega
theorem accB_nn {bl : List Int} (h : ∀ x ∈ bl, 0 ≤ x ∧ x ≤ 1) (o : Nat) : ∀ k, 0 ≤ accB bl o k ∧ accB bl o k < ((2 ^ k : Nat) : Int)
  | 0 => by simp [accB]
  | k + 1 => by
    have h1 := accB_nn h o k; have h2 := getD_bit h (o + k)
    rw [Nat.pow_succ]
    simp only [accB]; omega
def accN (bl : List Int) (o k : Nat) : Nat := (accB bl o k).toNat
theorem accN_lt {bl : List Int} (h : ∀ x ∈ bl, 0 ≤ x ∧ x ≤ 1) (o k : Nat) : accN bl o k < 2 ^ k := by have := accB_nn h o k; unfold accN; omega
theorem accN_add {bl : List Int} (h : ∀ x ∈ bl, 0 ≤ x ∧ x ≤ 1) (o a b : Nat) : accN bl o (a + b) = accN bl o a * 2 ^ b + accN bl (o + a) b := by
  have h1 := accB_nn h o (a + b); have h2 := accB_nn h o a; have h3 := accB_nn h (o + a) b
  have h4 := accB_add bl o a b
  unfold accN
  obtain ⟨x, hx⟩ := Int.eq_ofNat_of_zero_le h2.1
  obtain ⟨y, hy⟩ := Int.eq_ofNat_of_zero_le h3.1
  rw [h4, hx, hy]
  have : ((x : Int) * 2 ^ b + (y : Int)) = ((x * 2 ^ b + y : Nat) : Int) := by push_cast; rfl
  rw [this]; rfl
theorem shlOr (B : BitVec 64) (c v n : Nat) (hv : v < 2 ^ c) (hn : n + c ≤ 64) : (B <<< c ||| BitVec.ofNat 64 v).toNat % 2 ^ (n + c) = (B.toNat % 2 ^ n) * 2 ^ c + v := by
  have hp : 2 ^ 64 = 2 ^ (64 - c) * 2 ^ c := by rw [← Nat.pow_add]; congr 1; omega
  have hv64 : v < 2 ^ 64 := Nat.lt_of_lt_of_le hv (Nat.pow_le_pow_right (by omega) (by omega))
  rw [BitVec.toNat_or, BitVec.toNat_shiftLeft, BitVec.toNat_ofNat, Nat.mod_eq_of_lt hv64, Nat.shiftLeft_eq, hp, Nat.mul_mod_mul_right, Nat.mul_comm _ (2 ^ c), ← Nat.two_pow_add_eq_or_of_lt hv, Nat.add_comm n c, Nat.pow_add, Nat.mod_mul, Nat.mul_add_mod, Nat.mod_eq_of_lt hv, Nat.mul_add_div (Nat.two_pow_pos c), Nat.div_eq_of_lt hv, Nat.add_zero, Nat.mod_mod_of_dvd _ (Nat.pow_dvd_pow 2 (by omega)), Nat.mul_comm, Nat.add_comm]
theorem topBits (B : BitVec 64) {c m q l : Nat} (h : B.toNat % 2 ^ (c + m) = q * 2 ^ m + l) (hl : l < 2 ^ m) : (B >>> m).toNat % 2 ^ c = q ∧ B.toNat % 2 ^ m = l := by
  have e : B.toNat % 2 ^ (c + m) = B.toNat % 2 ^ m + 2 ^ m * (B.toNat / 2 ^ m % 2 ^ c) := by rw [Nat.add_comm c m, Nat.pow_add, Nat.mod_mul]
  rw [e] at h
  obtain ⟨h1, h2⟩ := split_pow h (Nat.mod_lt _ (Nat.two_pow_pos m)) hl
  rw [BitVec.toNat_ushiftRight, Nat.shiftRight_eq_div_pow]
  exact ⟨h1, h2⟩
theorem ofNat_of_mod {x : BitVec 64} {q : Int} (h : x.toNat % 2 ^ 8 = q.toNat) (hq : 0 ≤ q) : BitVec.setWidth 8 x = BitVec.ofInt 8 q := by
  obtain ⟨n, rfl⟩ := Int.eq_ofNat_of_zero_le hq
  apply BitVec.eq_of_toNat_eq
  rw [BitVec.toNat_setWidth, h, BitVec.ofInt_natCast, BitVec.toNat_ofNat, Nat.mod_eq_of_lt]
  · rfl
  · have h' : x.toNat % 2 ^ 8 = n := h
    rw [← h']; exact Nat.mod_lt _ (by decide)
theorem okB_at {s : Bs} (h : okB s = true) {i : Nat} (hi : i < s.length) : 0 ≤ idxS b32 (s.getD i 0#8) := by
  rw [okB, List.all_eq_true] at h
  simpa using h _ (getD_mem hi)
set_option maxRecDepth 8000 in
set_option maxHeartbeats 1000000 in
theorem c_base_Bytes {S : TS} {s p : Bs} {K : TV → TS → Prop} (hK : K (.tup [.sl (.own S.n) 1 (dB p), .lit (.int .i64 0)]) (S.push .lin)) (hd : dec3 s = some p) (h32 : s.length = 32) :
    TCall env 181 [.lit (.string (st s))] S K := by
  have hw := dec3_whole (s := s) (by omega)
  have hok : okB s = true := by
    cases h : okB s
    · rw [hw, h] at hd; cases hd
    · rfl
  rw [hw, if_pos hok] at hd
  cases hd
  refine (TCall.forget (R := fun t S' => ∃ k, t = .tup [.sl (.own k) 1 (dB (packB (allB s s.length) (5 * s.length / 8))), .lit (.int .i64 0)] ∧ S.n ≤ k ∧ S'.objs k = .lin ∧ Keep S S') ?_ fun t S1 hw ⟨k, h1, h2, h3, h4⟩ => ⟨[k], _, _, .row hw h4 h2 h3, by rw [h1]; exact .tupF (.cons (.sl 0 k 1 _ rfl) (.cons (.lit _) .nil)), hK⟩)
  refine TCall.w 44 [.tmp 2, .tmp 3] Tryz.func181 rfl rfl rfl rfl (by kernel_rfl) rfl ?_
  have hbits := allB_bit s s.length
  simp -implicitDefEqProofs (disch := omega) only [seval, go_sem]
  refine loW.asRow 4 1 rfl (.inl rfl) ?_
  refine loW_inv (fun n T S' => ∃ (i j m : Nat) (B : BitVec 64) (k : Nat), n + i = s.length ∧ T 0 = .lit (.string (st s)) ∧ T 4 = .sl (.own k) 1 (dB (packB (allB s s.length) j)) ∧ T 5 = .lit (w64 B) ∧ T 6 = .lit (.int .i64 (m : Int)) ∧ T 10 = .lit (.int .i64 (s.length : Int)) ∧ T 11 = .lit (.int .i64 (i : Int)) ∧
    m < 8 ∧ 8 * j + m = 5 * i ∧ B.toNat % 2 ^ m = accN (allB s s.length) (8 * j) m ∧ S'.objs k = .lin ∧ S.n ≤ k ∧ Keep S S') s.length ?_ ?_
  · exact ⟨0, 0, 0, 0#64, S.n, rfl, rfl, rfl, rfl, rfl, rfl, rfl, by omega, rfl, rfl, push_self _ _, Nat.le_refl _, Keep.push _ _⟩
  rintro n T S1 ⟨i, j, m, B, k, hi, h0, h4, h5, h6, h10, h11, hm, hjm, hB, hk, hkn, hkp⟩
  have hgk := Keep.refl S1
  simp -implicitDefEqProofs (disch := omega) only [seval, go_sem, h0, h4, h5, h6, h10, h11]
  refine cdK_d (fun hb => ?_) (fun hb => ?_)
  · have hlt : i < s.length := by omega
    have h0i := okB_at hok hlt
    have hi5 := (idx_spec (s.getD i 0#8)).1
    simp -implicitDefEqProofs (disch := omega) only [seval, go_sem, h0, h4, h5, h6, h10, h11]
    refine c_strings_IndexByte ?_
    obtain ⟨v, hv⟩ := Int.eq_ofNat_of_zero_le h0i
    have hacc := acc_all hlt hi5
    rw [hv] at hi5 hacc ⊢
    have hv32 : v < 2 ^ 5 := by omega
    simp -implicitDefEqProofs (disch := omega) only [seval, go_sem, h0, h4, h5, h6, h10, h11]
    have hB2 := shlOr B 5 v m hv32 (by omega)
    have hv2 : accN (allB s s.length) (8 * j + m) 5 = v := by unfold accN; rw [hjm, hacc]; rfl
    rw [hB, ← hv2, ← accN_add hbits] at hB2
    rw [hv2] at hB2
    generalize (B <<< 5 ||| BitVec.ofNat 64 v) = B2 at hB2 ⊢
    refine cdK_d (fun hc => ?_) (fun hc => ?_)
    · have hcs : ((m + 5 : Nat) : Int) - 8 = ((m - 3 : Nat) : Int) := by omega
      have e1 : accN (allB s s.length) (8 * j) (m + 5) = accN (allB s s.length) (8 * j) 8 * 2 ^ (m - 3) + accN (allB s s.length) (8 * (j + 1)) (m - 3) := by
        rw [show m + 5 = 8 + (m - 3) by omega, accN_add hbits]; rfl
      rw [show m + 5 = 8 + (m - 3) by omega] at hB2
      rw [show 8 + (m - 3) = m + 5 by omega, e1] at hB2
      have ⟨q1, q2⟩ := topBits (c := 8) (m := m - 3) (q := accN (allB s s.length) (8 * j) 8) (l := accN (allB s s.length) (8 * (j + 1)) (m - 3)) B2 (by rw [show 8 + (m - 3) = m + 5 by omega]; exact hB2) (accN_lt hbits _ _)
      have hby := ofNat_of_mod q1 (accB_nn hbits _ _).1
      simp -implicitDefEqProofs (disch := omega) only [seval, go_sem, h0, h4, h5, h6, h10, h11, hcs, hk, hby, packB_len]
      refine ⟨n - 1, by omega, i + 1, j + 1, m - 3, B2, S1.n, by omega, h0, ?_, rfl, rfl, h10, rfl, by omega, by omega, q2, push_self _ _, by have := hkp.1; omega, ?_⟩
      · show TV.sl _ _ _ = _
        rw [packB, dB_app]; rfl
      · exact (hkp.set hkn _).push' _
    · simp -implicitDefEqProofs (disch := omega) only [seval, go_sem, h0, h4, h5, h6, h10, h11]
      exact ⟨n - 1, by omega, i + 1, j, m + 5, B2, k, by omega, h0, h4, rfl, rfl, h10, rfl, by omega, by omega, hB2, hk, hkn, hkp⟩
  · have hie : i = 32 := by omega
    have hm0 : m = 0 := by omega
    have hj : j = 5 * s.length / 8 := by omega
    simp -implicitDefEqProofs (disch := omega) only [seval, go_sem, h0, h4, h5, h6, h10, h11]
    refine c_base_Text ?_ (by rw [packB_len]; omega) (by rw [packB_len]; omega)
    rw [hj, txt_pack hok (by omega)]
    simp -implicitDefEqProofs (disch := omega) only [seval, go_sem, h0, h4, h5, h6, h10, h11]
    exact ⟨k, by rw [hj], hkn, hk, hkp⟩
set_option maxRecDepth 8000 in
set_option maxHeartbeats 1000000 in
theorem c_base_Bytes_no {S : TS} {s : Bs} {K : TV → TS → Prop} (hK : K (.tup [.sl .full 0 [], .lit (.int .i64 2)]) S) (hd : dec3 s = none) (h32 : s.length = 32) :
    TCall env 181 [.lit (.string (st s))] S K := by
  have hw := dec3_whole (s := s) (by omega)
  have hok : okB s = false := by
    cases h : okB s
    · rfl
    · rw [hw, h] at hd; cases hd
  refine (TCall.forget (R := fun t S' => t = .tup [.sl .full 0 [], .lit (.int .i64 2)] ∧ Keep S S') ?_ fun t S1 hw ⟨h1, h4⟩ => ⟨[], _, _, .none hw h4, by rw [h1]; exact .tupF (.cons (.sl0 _ _ _ (.inr (.inl rfl))) (.cons (.lit _) .nil)), hK⟩)
  refine TCall.w 44 [.tmp 2, .tmp 3] Tryz.func181 rfl rfl rfl rfl (by kernel_rfl) rfl ?_
  simp -implicitDefEqProofs (disch := omega) only [seval, go_sem]
  refine loW.asRow 4 1 rfl (.inl rfl) ?_
  refine loW_inv (fun n T S' => ∃ (i m : Nat) (B : BitVec 64) (k : Nat) (xs : Bs), n + i = s.length ∧ T 0 = .lit (.string (st s)) ∧ T 4 = .sl (.own k) 1 (dB xs) ∧ T 5 = .lit (w64 B) ∧ T 6 = .lit (.int .i64 (m : Int)) ∧ T 10 = .lit (.int .i64 (s.length : Int)) ∧ T 11 = .lit (.int .i64 (i : Int)) ∧
    m < 8 ∧ xs.length ≤ i ∧ (∀ j, j < i → 0 ≤ idxS b32 (s.getD j 0#8)) ∧ S'.objs k = .lin ∧ S.n ≤ k ∧ Keep S S') s.length ?_ ?_
  · exact ⟨0, 0, 0#64, S.n, [], rfl, rfl, rfl, rfl, rfl, rfl, rfl, by omega, by simp, fun j hj => by omega, push_self _ _, Nat.le_refl _, Keep.push _ _⟩
  rintro n T S1 ⟨i, m, B, k, xs, hi, h0, h4, h5, h6, h10, h11, hm, hxs, hall, hk, hkn, hkp⟩
  simp -implicitDefEqProofs (disch := omega) only [seval, go_sem, h0, h4, h5, h6, h10, h11]
  refine cdK_d (fun hb => ?_) (fun hb => ?_)
  · have hlt : i < s.length := by omega
    have hi5 := (idx_spec (s.getD i 0#8)).1
    simp -implicitDefEqProofs (disch := omega) only [seval, go_sem, h0, h4, h5, h6, h10, h11]
    refine c_strings_IndexByte ?_
    simp -implicitDefEqProofs (disch := omega) only [seval, go_sem, h0, h4, h5, h6, h10, h11]
    refine cdK_d (fun hc => ?_) (fun hc => ?_)
    · simp -implicitDefEqProofs (disch := omega) only [seval, go_sem, h0, h4, h5, h6, h10, h11]
      exact ⟨rfl, hkp⟩
    obtain ⟨v, hv⟩ := Int.eq_ofNat_of_zero_le (a := idxS b32 (s.getD i 0#8)) (by omega)
    have hall' : ∀ j, j < i + 1 → 0 ≤ idxS b32 (s.getD j 0#8) := fun j hj => by
      rcases Nat.lt_succ_iff_lt_or_eq.1 hj with h | rfl
      · exact hall j h
      · omega
    rw [hv] at hi5 ⊢
    simp -implicitDefEqProofs (disch := omega) only [seval, go_sem, h0, h4, h5, h6, h10, h11]
    generalize (B <<< 5 ||| BitVec.ofNat 64 v) = B2
    refine cdK_d (fun hc => ?_) (fun hc => ?_)
    · have hcs : ((m + 5 : Nat) : Int) - 8 = ((m - 3 : Nat) : Int) := by omega
      simp -implicitDefEqProofs (disch := omega) only [seval, go_sem, h0, h4, h5, h6, h10, h11, hcs, hk]
      refine ⟨n - 1, by omega, i + 1, m - 3, B2, S1.n, xs ++ [BitVec.setWidth 8 (B2 >>> (m - 3))], by omega, h0, ?_, rfl, rfl, h10, rfl, by omega, by simp; omega, hall', push_self _ _, by have := hkp.1; omega, ?_⟩
      · show TV.sl _ _ _ = _
        rw [dB_app]; rfl
      · exact (hkp.set hkn _).push' _
    · simp -implicitDefEqProofs (disch := omega) only [seval, go_sem, h0, h4, h5, h6, h10, h11]
      exact ⟨n - 1, by omega, i + 1, m + 5, B2, k, xs, by omega, h0, h4, rfl, rfl, h10, rfl, by omega, by omega, hall', hk, hkn, hkp⟩
  · have : okB s = true := by
      rw [okB, List.all_eq_true]
      intro c hc
      obtain ⟨j, hj, rfl⟩ := List.getElem_of_mem hc
      have := hall j (by omega)
      rw [List.getD_eq_getElem?_getD, List.getElem?_eq_getElem hj] at this
      simpa using this
    rw [hok] at this; cases this
set_option maxRecDepth 8000 in
set_option maxHeartbeats 1000000 in
theorem c_name_Split {S : TS} {s : Bs} {K : TV → TS → Prop} (hK : K (splitV s) S) (hs : s.length ≤ 100000 := by omega) : TCall env 135 [.lit (.string (st s))] S K := by
  refine (TCall.pure (r := splitV s) ?_ (ren_splitV _ _)).mono fun t S' ⟨h1, h2⟩ => by rw [h1, h2]; exact hK
  refine TCall.w 33 [.tmp 2, .tmp 3, .tmp 4] Tryz.func135 rfl rfl rfl rfl (by kernel_rfl) rfl ?_
  by_cases h1 : s.length < 34
  · simp -implicitDefEqProofs (disch := omega) only [seval, go_sem]
    exact ⟨(split_no (.inl h1)).symm, Keep.refl _⟩
  by_cases h2 : (s.getD 32 0#8).toNat = 45
  rotate_left
  · simp -implicitDefEqProofs (disch := omega) only [seval, go_sem]
    exact ⟨(split_no (.inr (.inl h2))).symm, Keep.refl _⟩
  simp -implicitDefEqProofs (disch := omega) only [seval, go_sem]
  refine c_name_Right ?_
  cases h3 : rightS (s.drop 33)
  · simp -implicitDefEqProofs (disch := omega) only [seval, go_sem]
    exact ⟨(split_no (.inr (.inr (.inl h3)))).symm, Keep.refl _⟩
  simp -implicitDefEqProofs (disch := omega) only [seval, go_sem]
  have hl : (s.take 32).length = 32 := by rw [List.length_take]; omega
  have hd := dec3_whole (s := s.take 32) (by omega)
  cases hok : okB (s.take 32)
  · refine c_base_Bytes_no ?_ (by rw [hd, hok]; rfl) hl
    simp -implicitDefEqProofs (disch := omega) only [seval, go_sem]
    exact ⟨(split_no (.inr (.inr (.inr hok)))).symm, Keep.refl _⟩
  refine c_base_Bytes ?_ (by rw [hd, if_pos hok]) hl
  simp -implicitDefEqProofs (disch := omega) only [seval, go_sem]
  refine drW_at (idQ 7 0) followsN (by kernel_rfl) ?_
  simp -implicitDefEqProofs (disch := omega) only [seval, go_sem]
  exact ⟨(split_yes (by omega) h2 h3 hok).symm, Keep.push _ _⟩
set_option maxRecDepth 8000 in
set_option maxHeartbeats 1000000 in
theorem c_name_Is {S : TS} {s : Bs} {K : TV → TS → Prop} (hK : K (.lit (.bool (isP s))) S) (hs : s.length ≤ 100000 := by omega) : TCall env 140 [.lit (.string (st s))] S K := by
  refine TCall.w 13 [.tmp 2] Tryz.func140 rfl rfl rfl rfl (by kernel_rfl) rfl ?_
  simp -implicitDefEqProofs (disch := omega) only [seval, go_sem]
  refine c_name_Split ?_
  rw [splitV_eq]
  simp -implicitDefEqProofs (disch := omega) only [seval, go_sem]
  exact hK
end Go.Proofs.YtlljknmojafkoaaGreatDoor
namespace Go.Proofs.YtlljknmojafkoaaGreatDoor
open Go.RowKit TL
/-- A text goes into a list that rises (d: it is in already). -/
def insR (x : Bs) : List Bs → Bool → List Bs
  | [], d => if d = true then [] else [x]
  | y :: ys, d => (if d = false ∧ ltS x y = true then [x, y] else [y]) ++ insR x ys (d || ltS x y || decide (x = y))
def riseL (l : List Bs) : List Bs := l.foldl (fun out x => insR x out false) []
theorem drop_at {α : Type} {l : List α} {i : Nat} (d : α) (h : i < l.length) : l.drop i = l.getD i d :: l.drop (i + 1) := by
  rw [List.drop_eq_getElem_cons h, List.getD_eq_getElem?_getD, List.getElem?_eq_getElem h]; rfl
theorem dT_one (s : Bs) : [D.lit (.string (st s))] = dT [s] := rfl
set_option maxRecDepth 8000 in
set_option maxHeartbeats 1000000 in
theorem c_godownref01_Rise {S : TS} {g : Tag} {l : List Bs} {K : TV → TS → Prop} (hK : K (.sl (.own S.n) 1 (dT (riseL l))) (S.push .lin)) (hl : l.length ≤ 100000 := by omega) :
    TCall env 47 [.sl g 1 (dT l)] S K := by
  refine (TCall.rowE (s := 1) (xs := dT (riseL l)) ?_).mono fun t S' ⟨h1, h2⟩ => by rw [h1, h2]; exact hK
  refine TCall.w 70 [.tmp 2] Tryz.func47 rfl rfl rfl rfl (by kernel_rfl) rfl ?_
  simp -implicitDefEqProofs (disch := omega) only [seval, go_sem]
  refine loW.asRow 3 1 rfl (.inl rfl) ?_
  refine loW_inv (fun n T S' => ∃ (i k : Nat) (out : List Bs), n + i = l.length ∧ T 0 = .sl g 1 (dT l) ∧ T 3 = .sl (.own k) 1 (dT out) ∧ T 4 = .lit (.int .i64 (i : Int)) ∧ out.length ≤ i ∧
    (l.drop i).foldl (fun out x => insR x out false) out = riseL l ∧ S'.objs k = .lin ∧ S.n ≤ k ∧ Keep S S') l.length ?_ ?_
  · exact ⟨0, S.n, [], rfl, rfl, rfl, rfl, Nat.le_refl _, rfl, push_self _ _, Nat.le_refl _, Keep.push _ _⟩
  rintro n T S1 ⟨i, k, out, hi, h0, h3, h4, ho, hf, hk, hkn, hkp⟩
  simp -implicitDefEqProofs (disch := omega) only [seval, go_sem, h0, h3, h4]
  refine cdK_d (fun hb => ?_) (fun hb => ?_)
  · have hlt : i < l.length := by omega
    rw [drop_at [] hlt, List.foldl_cons] at hf
    generalize hx : l.getD i [] = x at hf
    simp -implicitDefEqProofs (disch := omega) only [seval, go_sem, h0, h3, h4]
    refine loW.asRow 5 1 rfl (.inl rfl) ?_
    refine loW_inv (fun n T S' => ∃ (j q : Nat) (m : List Bs) (d : Bool), n + j = out.length ∧ T 0 = .sl g 1 (dT l) ∧ T 3 = .sl (.own k) 1 (dT out) ∧ T 4 = .lit (.int .i64 (i : Int)) ∧ T 5 = .sl (.own q) 1 (dT m) ∧ T 6 = .lit (.bool d) ∧ T 7 = .lit (.int .i64 (j : Int)) ∧
      m.length ≤ j + (if d = true then 1 else 0) ∧ m ++ insR x (out.drop j) d = insR x out false ∧ S'.objs q = .lin ∧ S.n ≤ q ∧ Keep S S') out.length ?_ ?_
    · exact ⟨0, S1.n, [], false, rfl, h0, h3, h4, rfl, rfl, rfl, Nat.le_refl _, rfl, push_self _ _, by have := hkp.1; omega, hkp.push' _⟩
    rintro n2 T S2 ⟨j, q, m, d, hj, h0, h3, h4, h5, h6, h7, hm, hins, hq, hqn, hqp⟩
    simp -implicitDefEqProofs (disch := omega) only [seval, go_sem, h0, h3, h4, h5, h6, h7]
    refine cdK_d (fun hc => ?_) (fun hc => ?_)
    · have hlt2 : j < out.length := by omega
      rw [drop_at [] hlt2] at hins
      generalize hy : out.getD j [] = y at hins
      simp -implicitDefEqProofs (disch := omega) only [seval, go_sem, h0, h3, h4, h5, h6, h7]
      refine drW_at (idQ 13 0) followsN (by kernel_rfl) ?_
      cases d
      · simp only [Bool.false_eq_true, if_false] at hm
        cases hxy : ltS x y
        · simp -implicitDefEqProofs (disch := omega) only [seval, go_sem, h0, h3, h4, h5, h6, h7, hx, hy, hxy]
          refine drW_at (idQ 13 0) followsN (by kernel_rfl) ?_
          simp -implicitDefEqProofs (disch := omega) only [seval, go_sem, h0, h3, h4, h5, h6, h7, hx, hy, hxy, hq]
          refine ⟨n2 - 1, by omega, j + 1, S2.n, m ++ [y], decide (x = y), by omega, h0, h3, h4, ?_, rfl, rfl, by simp; omega, ?_, push_self _ _, by have := hqp.1; omega, (hqp.set hqn _).push' _⟩
          · show TV.sl _ _ _ = _
            rw [dT_app]; rfl
          · rw [← hins]
            simp [insR, hxy]
        · simp -implicitDefEqProofs (disch := omega) only [seval, go_sem, h0, h3, h4, h5, h6, h7, hx, hy, hxy, hq]
          refine drW_at (idQ 13 0) followsN (by kernel_rfl) ?_
          simp -implicitDefEqProofs (disch := omega) only [seval, go_sem, h0, h3, h4, h5, h6, h7, hx, hy, hxy, hq]
          refine ⟨n2 - 1, by omega, j + 1, S2.n + 1, m ++ [x, y], true, by omega, h0, h3, h4, ?_, rfl, rfl, by simp; omega, ?_, push_self _ _, by have := hqp.1; omega, ((hqp.set hqn _).push' _).push' _⟩
          · show TV.sl _ _ _ = _
            rw [dT_app, List.append_assoc]; rfl
          · rw [← hins]
            simp [insR, hxy]
      · simp only [if_true] at hm
        simp -implicitDefEqProofs (disch := omega) only [seval, go_sem, h0, h3, h4, h5, h6, h7, hx, hy]
        refine drW_at (idQ 13 0) followsN (by kernel_rfl) ?_
        simp -implicitDefEqProofs (disch := omega) only [seval, go_sem, h0, h3, h4, h5, h6, h7, hx, hy, hq]
        refine ⟨n2 - 1, by omega, j + 1, S2.n, m ++ [y], true, by omega, h0, h3, h4, ?_, rfl, rfl, by simp; omega, ?_, push_self _ _, by have := hqp.1; omega, (hqp.set hqn _).push' _⟩
        · show TV.sl _ _ _ = _
          rw [dT_app]; rfl
        · rw [← hins]
          simp [insR]
    · rw [List.drop_of_length_le (by omega)] at hins
      simp -implicitDefEqProofs (disch := omega) only [seval, go_sem, h0, h3, h4, h5, h6, h7]
      cases d
      · simp only [insR, Bool.false_eq_true, if_false] at hins hm
        simp -implicitDefEqProofs (disch := omega) only [seval, go_sem, h0, h3, h4, h5, h6, h7, hx, hq]
        refine ⟨n - 1, by omega, i + 1, S2.n, m ++ [x], by omega, h0, ?_, rfl, by simp; omega, by rw [hins]; exact hf, push_self _ _, by have := hqp.1; omega, (hqp.set hqn _).push' _⟩
        show TV.sl _ _ _ = _
        rw [dT_app]; rfl
      · simp only [insR, if_true, List.append_nil] at hins hm
        simp -implicitDefEqProofs (disch := omega) only [seval, go_sem, h0, h3, h4, h5, h6, h7, hx, hq]
        exact ⟨n - 1, by omega, i + 1, q, m, by omega, h0, rfl, rfl, by omega, by rw [hins]; exact hf, hq, hqn, hqp⟩
  · rw [List.drop_of_length_le (by omega)] at hf
    simp only [List.foldl_nil] at hf
    simp -implicitDefEqProofs (disch := omega) only [seval, go_sem, h0, h3, h4]
    exact ⟨.inl ⟨k, by rw [hf], hkn, hk⟩, hkp⟩
theorem quo64 (P : Program) (ty : TypeId) (x : BitVec 64) (b : Int) (h : 0 < b ∧ b < 18446744073709551616) : tvBin P .quo ty (w64 x) (.int .u64 b) = some (w64 (x / BitVec.ofInt 64 b)) := by
  obtain ⟨n, rfl⟩ : ∃ n : Nat, b = (n : Int) := ⟨b.toNat, by omega⟩
  have h1 : x.toNat / n < 2 ^ IntKind.u64.bits := Nat.lt_of_le_of_lt (Nat.div_le_self _ _) x.isLt
  simp only [tvBin, tvInt]
  rw [if_neg (by simp), if_pos trivial, if_neg (by omega), BitVec.ofInt_natCast, ← Int.ofNat_tdiv, wrap_nat rfl h1]
  show some (Value.int .u64 _) = some (Value.int .u64 ((x / BitVec.ofNat 64 n).toNat : Int))
  rw [BitVec.toNat_udiv, BitVec.toNat_ofNat, Nat.mod_eq_of_lt (a := n) (by omega)]
attribute [go_sem] quo64
theorem num2_r (n : Nat) (h : n < 18446744073709551616) : [D.lit (w8 (BitVec.setWidth 8 (BitVec.ofNat 64 n % 65536#64 / 256#64))), D.lit (w8 (BitVec.setWidth 8 (BitVec.ofNat 64 n % 65536#64 % 256#64)))] = dB (num2 n) := by
  have e1 : BitVec.setWidth 8 (BitVec.ofNat 64 n % 65536#64 / 256#64) = BitVec.ofNat 8 (n >>> 8) := by
    apply BitVec.eq_of_toNat_eq
    simp [BitVec.toNat_udiv, BitVec.toNat_umod, Nat.shiftRight_eq_div_pow]
    try omega
  have e2 : BitVec.setWidth 8 (BitVec.ofNat 64 n % 65536#64 % 256#64) = BitVec.ofNat 8 n := by
    apply BitVec.eq_of_toNat_eq
    simp [BitVec.toNat_umod]
  rw [e1, e2]; rfl
set_option maxRecDepth 8000 in
set_option maxHeartbeats 1000000 in
theorem c_godownref04_Num {S : TS} {n : Nat} {K : TV → TS → Prop} (hK : K (.sl .full 1 (dB (num2 n))) S) (hn : n ≤ 1000000 := by omega) : TCall env 106 [.lit (.int .i64 (n : Int))] S K := by
  refine TCall.w 14 [.tmp 2] Tryz.func106 rfl rfl rfl rfl (by kernel_rfl) rfl ?_
  have hr := num2_r n (by omega)
  simp -implicitDefEqProofs (disch := omega) only [seval, go_sem, hr]
  exact hK
set_option maxRecDepth 8000 in
set_option maxHeartbeats 1000000 in
theorem c_godownref04_Text {S : TS} {s : Bs} {K : TV → TS → Prop} (hK : K (.sl (.own S.n) 1 (dB (text2 s))) (S.push .lin)) (hs : s.length ≤ 900000 := by omega) : TCall env 49 [.lit (.string (st s))] S K := by
  refine (TCall.row (s := 1) (xs := dB (text2 s)) ?_).mono fun t S' ⟨h1, h2⟩ => by rw [h1, h2]; exact hK
  refine TCall.w 9 [.tmp 2] Tryz.func49 rfl rfl rfl rfl (by kernel_rfl) rfl ?_
  simp -implicitDefEqProofs (disch := omega) only [seval, go_sem]
  refine c_godownref04_Num ?_
  simp -implicitDefEqProofs (disch := omega) only [seval, go_sem, num2_len]
  exact ⟨S.n + 1, by rw [text2, dB_app], by omega, push_self _ _, ((Keep.refl S).push' _).push' _⟩
set_option maxRecDepth 8000 in
set_option maxHeartbeats 1000000 in
theorem c_godownref04_Texts {S : TS} {g : Tag} {l : List Bs} {K : TV → TS → Prop} (hK : K (.sl (.own S.n) 1 (dB (texts2 l))) (S.push .lin)) (hl : (texts2 l).length ≤ 900000 := by omega) : TCall env 51 [.sl g 1 (dT l)] S K := by
  refine (TCall.row (s := 1) (xs := dB (texts2 l)) ?_).mono fun t S' ⟨h1, h2⟩ => by rw [h1, h2]; exact hK
  refine TCall.w 23 [.tmp 2] Tryz.func51 rfl rfl rfl rfl (by kernel_rfl) rfl ?_
  have hge := texts2_ge l
  simp -implicitDefEqProofs (disch := omega) only [seval, go_sem]
  refine loW.asRow 3 1 rfl (.inr rfl) ?_
  refine loW_inv (fun n T S' => ∃ (i k : Nat), n + i = l.length ∧ T 0 = .sl g 1 (dT l) ∧ T 3 = .sl (.own k) 1 (dB (BitVec.ofNat 8 l.length :: (l.take i).flatMap text2)) ∧ T 4 = .lit (.int .i64 (i : Int)) ∧ S'.objs k = .lin ∧ k < S'.n ∧ S.n ≤ k ∧ Keep S S') l.length ?_ ?_
  · exact ⟨0, S.n, rfl, rfl, rfl, rfl, push_self _ _, Nat.lt_succ_self _, Nat.le_refl _, Keep.push _ _⟩
  rintro n T S1 ⟨i, k, hi, h0, h3, h4, hk, hkl, hkn, hkp⟩
  simp -implicitDefEqProofs (disch := omega) only [seval, go_sem, h0, h3, h4]
  refine cdK_d (fun hb => ?_) (fun hb => ?_)
  · simp -implicitDefEqProofs (disch := omega) only [seval, go_sem, h0, h3, h4]
    have hx := take_succ_D l (i := i) [] (by omega)
    have hs := text_in (x := l.getD i []) (l := l) (getD_mem (by omega))
    have ht := take_texts l i
    have htl := text2_len (l.getD i [])
    have hlc : (BitVec.ofNat 8 l.length :: (l.take i).flatMap text2).length = ((l.take i).flatMap text2).length + 1 := rfl
    refine c_godownref04_Text ?_
    simp -implicitDefEqProofs (disch := omega) only [seval, go_sem, h0, h3, h4, hk]
    refine ⟨n - 1, by omega, i + 1, S1.n + 1, by omega, h0, ?_, rfl, push_self _ _, Nat.lt_succ_self _, by have := hkp.1; omega, ?_⟩
    · show TV.sl _ _ _ = _
      rw [hx, List.flatMap_append, ← List.cons_append, dB_app]; simp
    · exact ((hkp.set hkn _).push' _).push' _
  · rw [List.take_of_length_le (by omega)] at h3
    simp -implicitDefEqProofs (disch := omega) only [seval, go_sem, h0, h3, h4]
    exact ⟨k, rfl, hkn, hk, hkp⟩
end Go.Proofs.YtlljknmojafkoaaGreatDoor
namespace Go.Proofs.YtlljknmojafkoaaGreatDoor
open Go.RowKit TL
theorem ltS_irrefl : ∀ a : Bs, ltS a a = false
  | [] => rfl
  | x :: a => by simp [ltS, ltS_irrefl a]
theorem ltS_trans : ∀ {a b c : Bs}, ltS a b = true → ltS b c = true → ltS a c = true
  | _, [], _, h, _ => by cases ‹Bs› <;> simp [ltS] at h
  | _, _ :: _, [], _, h => by simp [ltS] at h
  | [], _ :: _, _ :: _, _, _ => rfl
  | x :: a, y :: b, z :: c, h1, h2 => by
    simp only [ltS, Bool.or_eq_true, decide_eq_true_eq, Bool.and_eq_true, beq_iff_eq] at h1 h2 ⊢
    rcases h1 with h1 | ⟨rfl, h1⟩
    · rcases h2 with h2 | ⟨rfl, h2⟩
      · exact .inl (by omega)
      · exact .inl h1
    · rcases h2 with h2 | ⟨rfl, h2⟩
      · exact .inl h2
      · exact .inr ⟨rfl, ltS_trans h1 h2⟩
theorem ltS_total : ∀ a b : Bs, ltS a b = true ∨ a = b ∨ ltS b a = true
  | [], [] => .inr (.inl rfl)
  | [], _ :: _ => .inl rfl
  | _ :: _, [] => .inr (.inr rfl)
  | x :: a, y :: b => by
    simp only [ltS, Bool.or_eq_true, decide_eq_true_eq, Bool.and_eq_true, beq_iff_eq, List.cons.injEq]
    rcases Nat.lt_trichotomy x.toNat y.toNat with h | h | h
    · exact .inl (.inl h)
    · have hxy : x = y := BitVec.eq_of_toNat_eq h
      subst hxy
      rcases ltS_total a b with h | h | h
      · exact .inl (.inr ⟨rfl, h⟩)
      · exact .inr (.inl ⟨rfl, h⟩)
      · exact .inr (.inr (.inr ⟨rfl, h⟩))
    · exact .inr (.inr (.inl h))
theorem ltS_asymm {a b : Bs} (h : ltS a b = true) : ltS b a = false := by
  cases h' : ltS b a
  · rfl
  · have := ltS_trans h h'; rw [ltS_irrefl] at this; cases this
/-- A list that rises. -/
abbrev Ris (l : List Bs) : Prop := l.Pairwise fun a b => ltS a b = true
theorem insR_t (x : Bs) : ∀ l, insR x l true = l
  | [] => rfl
  | y :: l => by simp [insR, insR_t x l]
theorem insR_mem (x : Bs) : ∀ (l : List Bs) (y : Bs), Ris l → (y ∈ insR x l false ↔ y = x ∨ y ∈ l)
  | [], y, _ => by simp [insR]
  | z :: l, y, h => by
    have ⟨h1, h2⟩ := List.pairwise_cons.1 h
    cases hz : ltS x z
    · by_cases hxz : x = z
      · subst hxz
        simp only [insR, hz, decide_true, Bool.or_true, insR_t, Bool.false_eq_true, and_false, if_false]
        simp
      · simp only [insR, hz, hxz, decide_false, Bool.or_false, Bool.false_eq_true, and_false, if_false]
        simp only [List.mem_append, List.mem_cons, List.not_mem_nil, or_false, insR_mem x l y h2]
        constructor
        · rintro (h | h | h)
          · exact .inr (.inl h)
          · exact .inl h
          · exact .inr (.inr h)
        · rintro (h | h | h)
          · exact .inr (.inl h)
          · exact .inl h
          · exact .inr (.inr h)
    · simp only [insR, hz, Bool.false_or, Bool.true_or, insR_t]
      simp [or_assoc]
theorem insR_ris (x : Bs) : ∀ (l : List Bs), Ris l → Ris (insR x l false)
  | [], _ => by simp [insR]
  | z :: l, h => by
    have ⟨h1, h2⟩ := List.pairwise_cons.1 h
    cases hz : ltS x z
    · by_cases hxz : x = z
      · subst hxz
        simp only [insR, hz, decide_true, Bool.or_true, insR_t, Bool.false_eq_true, and_false, if_false]
        exact h
      · simp only [insR, hz, hxz, decide_false, Bool.or_false, Bool.false_eq_true, and_false, if_false]
        refine List.pairwise_cons.2 ⟨fun y hy => ?_, insR_ris x l h2⟩
        rcases (insR_mem x l y h2).1 hy with rfl | hy
        · rcases ltS_total y z with h | h | h
          · rw [hz] at h; cases h
          · exact absurd h hxz
          · exact h
        · exact h1 y hy
    · simp only [insR, hz, Bool.false_or, Bool.true_or, insR_t]
      refine List.pairwise_cons.2 ⟨fun y hy => ?_, h⟩
      rcases List.mem_cons.1 hy with rfl | hy
      · exact hz
      · exact ltS_trans hz (h1 y hy)
theorem foldR : ∀ (l out : List Bs), Ris out → Ris (l.foldl (fun out x => insR x out false) out) ∧ ∀ y, y ∈ l.foldl (fun out x => insR x out false) out ↔ y ∈ l ∨ y ∈ out
  | [], out, h => ⟨h, fun y => by simp⟩
  | x :: l, out, h => by
    have ⟨h1, h2⟩ := foldR l _ (insR_ris x out h)
    refine ⟨h1, fun y => ?_⟩
    rw [List.foldl_cons, h2, insR_mem x out y h]
    simp only [List.mem_cons]
    constructor
    · rintro (h | h | h)
      · exact .inl (.inr h)
      · exact .inl (.inl h)
      · exact .inr h
    · rintro ((h | h) | h)
      · exact .inr (.inl h)
      · exact .inl h
      · exact .inr (.inr h)
theorem riseL_ris (l : List Bs) : Ris (riseL l) := (foldR l [] List.Pairwise.nil).1
theorem riseL_mem (l : List Bs) (y : Bs) : y ∈ riseL l ↔ y ∈ l := by
  have := (foldR l [] List.Pairwise.nil).2 y
  simpa [riseL] using this
theorem ris_ext : ∀ {a b : List Bs}, Ris a → Ris b → (∀ y, y ∈ a ↔ y ∈ b) → a = b
  | [], [], _, _, _ => rfl
  | [], y :: b, _, _, h => by have := (h y).2 (by simp); cases this
  | x :: a, [], _, _, h => by have := (h x).1 (by simp); cases this
  | x :: a, y :: b, ha, hb, h => by
    have ⟨a1, a2⟩ := List.pairwise_cons.1 ha
    have ⟨b1, b2⟩ := List.pairwise_cons.1 hb
    have hxy : x = y := by
      have h1 := (h x).1 (by simp)
      have h2 := (h y).2 (by simp)
      rcases List.mem_cons.1 h1 with h1 | h1
      · exact h1
      · rcases List.mem_cons.1 h2 with h2 | h2
        · exact h2.symm
        · have := ltS_asymm (a1 y h2); rw [b1 x h1] at this; cases this
    subst hxy
    congr 1
    refine ris_ext a2 b2 fun z => ?_
    constructor
    · intro hz
      rcases List.mem_cons.1 ((h z).1 (List.mem_cons_of_mem _ hz)) with rfl | h'
      · have := a1 z hz; rw [ltS_irrefl] at this; cases this
      · exact h'
    · intro hz
      rcases List.mem_cons.1 ((h z).2 (List.mem_cons_of_mem _ hz)) with rfl | h'
      · have := b1 z hz; rw [ltS_irrefl] at this; cases this
      · exact h'
theorem riseL_eq {l : List Bs} (h : Ris l) : riseL l = l := ris_ext (riseL_ris l) h (riseL_mem l)
theorem riseL_iff (l : List Bs) : l = riseL l ↔ Ris l := ⟨fun h => by rw [h]; exact riseL_ris l, fun h => (riseL_eq h).symm⟩
theorem riseL_len (l : List Bs) : (riseL l).length ≤ l.length := by
  have : ∀ (x : Bs) (l : List Bs) (d : Bool), (insR x l d).length ≤ l.length + 1 := by
    intro x l
    induction l with
    | nil => intro d; cases d <;> simp [insR]
    | cons y l ih =>
      intro d
      cases d
      · cases hz : ltS x y
        · have := ih (false || ltS x y || decide (x = y))
          simp only [hz] at this
          simp only [insR, hz, Bool.false_eq_true, and_false, if_false, List.length_append, List.length_cons, List.length_nil]
          omega
        · simp [insR, hz, insR_t]
      · simp [insR_t]
  have h2 : ∀ (l out : List Bs), (l.foldl (fun out x => insR x out false) out).length ≤ l.length + out.length := by
    intro l
    induction l with
    | nil => intro out; simp
    | cons x l ih => intro out; have := ih (insR x out false); have := this; have h3 := this; have := ‹∀ (x : Bs) (l : List Bs) (d : Bool), _› x out false; simp only [List.foldl_cons, List.length_cons]; omega
  have := h2 l []
  simpa [riseL] using this
theorem ris_adj {l : List Bs} (h : ∀ i, i + 1 < l.length → ltS (l.getD i []) (l.getD (i + 1) []) = true) : Ris l := by
  induction l with
  | nil => exact List.Pairwise.nil
  | cons x l ih =>
    have h' : ∀ i, i + 1 < l.length → ltS (l.getD i []) (l.getD (i + 1) []) = true := fun i hi => by have := h (i + 1) (by simp; omega); simpa using this
    refine List.pairwise_cons.2 ⟨fun y hy => ?_, ih h'⟩
    cases l with
    | nil => cases hy
    | cons z l =>
      have h0 := h 0 (by simp)
      simp at h0
      rcases List.mem_cons.1 hy with rfl | hy
      · exact h0
      · exact ltS_trans h0 ((List.pairwise_cons.1 (ih h')).1 y hy)
theorem ris_at {l : List Bs} (h : Ris l) {i : Nat} (hi : i + 1 < l.length) : ltS (l.getD i []) (l.getD (i + 1) []) = true := by
  rw [List.getD_eq_getElem?_getD, List.getD_eq_getElem?_getD, List.getElem?_eq_getElem hi, List.getElem?_eq_getElem (by omega : i < l.length)]
  exact List.pairwise_iff_getElem.1 h i (i + 1) (by omega) hi (by omega)
end Go.Proofs.YtlljknmojafkoaaGreatDoor
namespace Go.Proofs.YtlljknmojafkoaaGreatDoor
open Go.RowKit TL
theorem rightS_len {s : Bs} (h : rightS s = true) : s.length ≤ 40 := by
  simp only [rightS, Bool.and_eq_true, decide_eq_true_eq] at h
  exact h.1.1.2
theorem txtS_len (p : Bs) : (txtS p).length = (8 * p.length + 4) / 5 := txtN_len _ _
theorem isP_len {s : Bs} (h : isP s = true) : s.length ≤ 73 := by
  unfold isP splitS at h
  split at h
  · rename_i h1
    obtain ⟨h1, h2, h3, h4⟩ := h1
    have h5 := rightS_len h3
    rw [List.length_drop] at h5
    omega
  · cases h
theorem texts2_le {l : List Bs} (h : l.all isP = true) : (texts2 l).length ≤ 1 + 75 * l.length := by
  rw [texts2_len]
  induction l with
  | nil => simp
  | cons x l ih =>
    rw [List.all_cons, Bool.and_eq_true] at h
    have := ih h.2
    have := isP_len h.1
    rw [List.flatMap_cons, List.length_append, text2_len, List.length_cons]
    omega
def refsOk (refs : List Bs) : Bool := decide (refs.length ≤ 255) && decide (refs = riseL refs) && refs.all isP
def mkP (nm ar : Bs) (refs : List Bs) : Bs := txtS (fold20 (sha (text2 (sha ar) ++ texts2 refs ++ text2 nm))) ++ 45#8 :: nm
/-- What Make answers: a path, or an error's number. -/
def mkV (nm ar : Bs) (refs : List Bs) : TV :=
  if rightS nm = false then .tup [.lit (.string (st [])), .lit (.int .i64 4)]
  else if refsOk refs = false then .tup [.lit (.string (st [])), .lit (.int .i64 1)]
  else .tup [.lit (.string (st (mkP nm ar refs))), .lit (.int .i64 0)]
theorem ren_mkV (n : Nat) (nm ar : Bs) (refs : List Bs) : Ren n [] (mkV nm ar refs) (mkV nm ar refs) := by
  unfold mkV
  split
  · exact .tupF (.cons (.lit _) (.cons (.lit _) .nil))
  · split <;> exact .tupF (.cons (.lit _) (.cons (.lit _) .nil))
theorem all_at {l : List Bs} (h : ∀ i, i < l.length → isP (l.getD i []) = true) : l.all isP = true := by
  rw [List.all_eq_true]
  intro x hx
  obtain ⟨i, hi, rfl⟩ := List.getElem_of_mem hx
  have := h i hi
  rwa [List.getD_eq_getElem?_getD, List.getElem?_eq_getElem hi] at this
theorem all_no {l : List Bs} {i : Nat} (hi : i < l.length) (h : isP (l.getD i []) = false) : l.all isP = false := by
  cases h' : l.all isP
  · rfl
  · rw [List.all_eq_true] at h'
    rw [h' _ (getD_mem hi)] at h; cases h
set_option maxRecDepth 8000 in
set_option maxHeartbeats 1000000 in
theorem c_godownref07_Make {S : TS} {nm ar : Bs} {ga g : Tag} {refs : List Bs} {K : TV → TS → Prop} (hK : K (mkV nm ar refs) S) (hr : ∀ s ∈ refs, s.length ≤ 100000) (hn : nm.length ≤ 100000 := by omega) (ha : ar.length ≤ 1000000 := by omega) (hl : refs.length ≤ 100000 := by omega) :
    TCall env 15 [.agg [.sl .none 1 (gD fW), .sl .none 1 (gD kW)], .lit (.string (st nm)), .sl ga 1 (dB ar), .sl g 1 (dT refs)] S K := by
  refine (TCall.pure (r := mkV nm ar refs) ?_ (ren_mkV _ _ _ _)).mono fun t S' ⟨h1, h2⟩ => by rw [h1, h2]; exact hK
  refine TCall.w 57 [.tmp 8, .tmp 9] Tryz.func15 rfl rfl rfl rfl (by kernel_rfl) rfl ?_
  simp -implicitDefEqProofs (disch := omega) only [seval, go_sem]
  refine c_godownref07_Right ?_
  cases hrn : rightS nm
  · simp -implicitDefEqProofs (disch := omega) only [seval, go_sem]
    exact ⟨by show TV.tup _ = _; rw [mkV, if_pos hrn], Keep.push _ _⟩
  simp -implicitDefEqProofs (disch := omega) only [seval, go_sem]
  by_cases hlen : refs.length ≤ 255
  rotate_left
  · simp -implicitDefEqProofs (disch := omega) only [seval, go_sem]
    exact ⟨by show TV.tup _ = _; rw [mkV, if_neg (by rw [hrn]; simp), if_pos (by simp [refsOk, hlen])], Keep.push _ _⟩
  simp -implicitDefEqProofs (disch := omega) only [seval, go_sem]
  refine c_godownref01_Rise ?_
  simp -implicitDefEqProofs (disch := omega) only [seval, go_sem]
  refine c_godownref01_Texts ?_
  by_cases hris : refs = riseL refs
  rotate_left
  · simp -implicitDefEqProofs (disch := omega) only [seval, go_sem, hris]
    exact ⟨by show TV.tup _ = _; rw [mkV, if_neg (by rw [hrn]; simp), if_pos (by simp [refsOk, hris])], ((Keep.refl S).push' _).push' _⟩
  rw [← hris]
  simp -implicitDefEqProofs (disch := omega) only [seval, go_sem]
  obtain ⟨S2, hS2⟩ : ∃ S2, S2 = (S.push (.cells 27 [.sl .none 1 (gD fW), .sl .none 1 (gD kW)])).push .lin := ⟨_, rfl⟩
  rw [← hS2]
  refine loW_inv (fun n T S' => ∃ i : Nat, n + i = refs.length ∧ T 1 = .lit (.string (st nm)) ∧ T 2 = .sl ga 1 (dB ar) ∧ T 3 = .sl g 1 (dT refs) ∧ T 4 = .ptr S.n 0 ∧ T 10 = .lit (.int .i64 (i : Int)) ∧ (∀ j, j < i → isP (refs.getD j []) = true) ∧ S' = S2) refs.length ?_ ?_
  · exact ⟨0, rfl, rfl, rfl, rfl, rfl, rfl, fun j hj => by omega, rfl⟩
  rintro n T S' ⟨i, hi, h1, h2, h3, h4, h10, hall, rfl⟩
  have hn2 : S'.n = S.n + 2 := by rw [hS2]; rfl
  have ho : S'.objs S.n = .cells 27 [.sl .none 1 (gD fW), .sl .none 1 (gD kW)] := by rw [hS2]; simp -implicitDefEqProofs (disch := omega) only [seval, go_sem]
  have hkp : Keep S S' := by rw [hS2]; exact ((Keep.refl S).push' _).push' _
  simp -implicitDefEqProofs (disch := omega) only [seval, go_sem, h1, h2, h3, h4, h10]
  refine cdK_d (fun hb => ?_) (fun hb => ?_)
  · have hlt : i < refs.length := by omega
    have hx := hr _ (getD_mem (d := []) hlt)
    simp -implicitDefEqProofs (disch := omega) only [seval, go_sem, h1, h2, h3, h4, h10]
    refine c_godownref07_Is ?_
    cases hp : isP (refs.getD i [])
    · simp -implicitDefEqProofs (disch := omega) only [seval, go_sem]
      exact ⟨by show TV.tup _ = _; rw [mkV, if_neg (by rw [hrn]; simp), if_pos (by rw [refsOk, all_no hlt hp]; simp)], hkp⟩
    simp -implicitDefEqProofs (disch := omega) only [seval, go_sem, h1, h2, h3, h4, h10]
    exact ⟨n - 1, by omega, i + 1, by omega, h1, h2, h3, h4, rfl, fun j hj => by
      rcases Nat.lt_succ_iff_lt_or_eq.1 hj with h | rfl
      · exact hall j h
      · exact hp, rfl⟩
  · have hok : refs.all isP = true := all_at fun j hj => hall j (by omega)
    have hlt := texts2_le hok
    have hs32 := sha_len ar
    have hs33 := text2_len (sha ar)
    have hnl := rightS_len hrn
    have hs34 := text2_len nm
    simp -implicitDefEqProofs (disch := omega) only [seval, go_sem, h1, h2, h3, h4, h10, ho]
    refine c_godownref02_Sum ?_
    simp -implicitDefEqProofs (disch := omega) only [seval, go_sem, h1, h2, h3, h4, h10, ho]
    refine c_godownref04_Text ?_
    simp -implicitDefEqProofs (disch := omega) only [seval, go_sem, h1, h2, h3, h4, h10, ho]
    refine c_godownref04_Texts ?_
    simp -implicitDefEqProofs (disch := omega) only [seval, go_sem, h1, h2, h3, h4, h10, ho]
    refine c_godownref04_Text ?_
    simp -implicitDefEqProofs (disch := omega) only [seval, go_sem, h1, h2, h3, h4, h10, ho]
    rw [← dB_app, ← dB_app]
    have hpl : (text2 (sha ar) ++ texts2 refs ++ text2 nm).length ≤ 100000 := by simp only [List.length_append]; omega
    generalize hp : text2 (sha ar) ++ texts2 refs ++ text2 nm = p at hpl
    have h20 := fold20_len (sha p)
    refine c_godownref02_Short ?_
    simp -implicitDefEqProofs (disch := omega) only [seval, go_sem, h1, h2, h3, h4, h10, ho]
    refine c_godownref03_Text ?_
    have h32 := txtS_len (fold20 (sha p))
    have h33 : ([UInt8.toBitVec 45] : Bs).length = 1 := rfl
    have h34 : (txtS (fold20 (sha p)) ++ [UInt8.toBitVec 45]).length = (txtS (fold20 (sha p))).length + 1 := by simp
    simp -implicitDefEqProofs (disch := omega) only [seval, go_sem, h1, h2, h3, h4, h10, ho]
    refine ⟨?_, by repeat (first | exact hkp | refine Keep.push' ?_ _)⟩
    show TV.tup _ = _
    rw [mkV, if_neg (by rw [hrn]; simp), if_neg (by rw [refsOk, hok, decide_eq_true hlen, decide_eq_true hris]; simp), mkP, hp, List.append_assoc]
    rfl
set_option maxRecDepth 8000 in
set_option maxHeartbeats 1000000 in
theorem c_name_rising {S : TS} {g : Tag} {refs : List Bs} {K : TV → TS → Prop} (hK : K (.lit (.bool (refsOk refs))) S) (hr : ∀ s ∈ refs, s.length ≤ 100000) (hl : refs.length ≤ 100000 := by omega) :
    TCall env 186 [.sl g 1 (dT refs)] S K := by
  refine TCall.w 32 [.tmp 2] Tryz.func186 rfl rfl rfl rfl (by kernel_rfl) rfl ?_
  simp -implicitDefEqProofs (disch := omega) only [seval, go_sem]
  refine loW_inv (fun n T S' => ∃ i : Nat, n + i = refs.length ∧ T 0 = .sl g 1 (dT refs) ∧ T 5 = .sl g 1 (dT refs) ∧ T 6 = .lit (.int .i64 (refs.length : Int)) ∧ T 7 = .lit (.int .i64 (i : Int)) ∧ (∀ j, j < i → isP (refs.getD j []) = true ∧ (0 < j → ltS (refs.getD (j - 1) []) (refs.getD j []) = true)) ∧ S' = S) refs.length ?_ ?_
  · exact ⟨0, rfl, rfl, rfl, rfl, rfl, fun j hj => by omega, rfl⟩
  rintro n T S' ⟨i, hi, h0, h5, h6, h7, hall, rfl⟩
  simp -implicitDefEqProofs (disch := omega) only [seval, go_sem, h0, h5, h6, h7]
  refine cdK_d (fun hb => ?_) (fun hb => ?_)
  · have hlt : i < refs.length := by omega
    have hx := hr _ (getD_mem (d := []) hlt)
    simp -implicitDefEqProofs (disch := omega) only [seval, go_sem, h0, h5, h6, h7]
    refine c_name_Is ?_
    cases hp : isP (refs.getD i [])
    · simp -implicitDefEqProofs (disch := omega) only [seval, go_sem]
      have : refsOk refs = false := by rw [refsOk, all_no hlt hp]; simp
      rw [this] at hK
      exact hK
    by_cases h0i : i = 0
    · subst h0i
      simp -implicitDefEqProofs (disch := omega) only [seval, go_sem, h0, h5, h6, h7]
      exact ⟨n - 1, by omega, 1, by omega, h0, h5, h6, rfl, fun j hj => by
        obtain rfl : j = 0 := by omega
        exact ⟨hp, fun h => by omega⟩, rfl⟩
    have hc : (i : Int) - 1 = ((i - 1 : Nat) : Int) := by omega
    simp -implicitDefEqProofs (disch := omega) only [seval, go_sem, h0, h5, h6, h7, hc]
    cases hlt2 : ltS (refs.getD (i - 1) []) (refs.getD i [])
    · simp -implicitDefEqProofs (disch := omega) only [seval, go_sem]
      have : refsOk refs = false := by
        have : ¬ refs = riseL refs := fun h => by
          have := ris_at ((riseL_iff refs).1 h) (i := i - 1) (by omega)
          rw [show i - 1 + 1 = i by omega, hlt2] at this; cases this
        rw [refsOk, decide_eq_false this]; simp
      rw [this] at hK
      exact hK
    · simp -implicitDefEqProofs (disch := omega) only [seval, go_sem, h0, h5, h6, h7, hc]
      exact ⟨n - 1, by omega, i + 1, by omega, h0, h5, h6, rfl, fun j hj => by
        rcases Nat.lt_succ_iff_lt_or_eq.1 hj with h | rfl
        · exact hall j h
        · exact ⟨hp, fun _ => hlt2⟩, rfl⟩
  · simp -implicitDefEqProofs (disch := omega) only [seval, go_sem, h0, h5, h6, h7]
    have h1 : refs.all isP = true := all_at fun j hj => (hall j (by omega)).1
    have h2 : refs = riseL refs := (riseL_iff refs).2 (ris_adj fun j hj => by have := (hall (j + 1) (by omega)).2 (by omega); simpa using this)
    have h3 : refsOk refs = decide ((refs.length : Int) ≤ 255) := by
      rw [refsOk, h1, decide_eq_true h2, Bool.and_true, Bool.and_true]
      exact decide_eq_decide.2 (by omega)
    rw [h3] at hK
    exact hK
set_option maxRecDepth 8000 in
set_option maxHeartbeats 1000000 in
theorem c_name_Make {S : TS} {nm ar : Bs} {ga g : Tag} {refs : List Bs} {K : TV → TS → Prop} (hK : K (mkV nm ar refs) S) (hr : ∀ s ∈ refs, s.length ≤ 100000) (hn : nm.length ≤ 100000 := by omega) (ha : ar.length ≤ 1000000 := by omega) (hl : refs.length ≤ 100000 := by omega) :
    TCall env 142 [.lit (.string (st nm)), .sl ga 1 (dB ar), .sl g 1 (dT refs)] S K := by
  refine (TCall.pure (r := mkV nm ar refs) ?_ (ren_mkV _ _ _ _)).mono fun t S' ⟨h1, h2⟩ => by rw [h1, h2]; exact hK
  refine TCall.w 35 [.tmp 6, .tmp 7] Tryz.func142 rfl rfl rfl rfl (by kernel_rfl) rfl ?_
  simp -implicitDefEqProofs (disch := omega) only [seval, go_sem]
  refine c_name_Right ?_
  cases hrn : rightS nm
  · simp -implicitDefEqProofs (disch := omega) only [seval, go_sem]
    exact ⟨by show TV.tup _ = _; rw [mkV, if_pos hrn], Keep.refl _⟩
  simp -implicitDefEqProofs (disch := omega) only [seval, go_sem]
  refine c_name_rising ?_ hr
  cases hok : refsOk refs
  · simp -implicitDefEqProofs (disch := omega) only [seval, go_sem]
    exact ⟨by show TV.tup _ = _; rw [mkV, if_neg (by rw [hrn]; simp), if_pos hok], Keep.refl _⟩
  simp -implicitDefEqProofs (disch := omega) only [seval, go_sem]
  refine c_hash_Sum ?_
  have hok2 := hok
  simp only [refsOk, Bool.and_eq_true, decide_eq_true_eq] at hok2
  have hlt := texts2_le hok2.2
  have hs32 := sha_len ar
  have hs33 := text2_len (sha ar)
  have hnl := rightS_len hrn
  have hs34 := text2_len nm
  simp -implicitDefEqProofs (disch := omega) only [seval, go_sem]
  refine TCall.ghost (fun w0 c w hk => hk.rel.rowCell (id := S.n) 1 0 (by simp -implicitDefEqProofs (disch := omega) only [seval, go_sem]; rfl) rfl) ?_
  have hw0 : Wr ((((S.push (.cells 234 [.sl .full 0 []])).push .lin).push .lin).set S.n (.cells 234 [.sl (.own (S.n + 2)) 1 []])) S.n (S.n + 2) [] := ⟨by simp -implicitDefEqProofs (disch := omega) only [seval, go_sem]; rfl, by simp -implicitDefEqProofs (disch := omega) only [seval, go_sem], by simp -implicitDefEqProofs (disch := omega) only [seval, go_sem] <;> omega, by simp -implicitDefEqProofs (disch := omega) only [seval, go_sem] <;> omega, by omega⟩
  refine c_Writer_Text hw0 (fun S1 k1 hw1 => ?_) (by simp) (by omega)
  simp -implicitDefEqProofs (disch := omega) only [seval, go_sem]
  refine c_Writer_Texts hw1.wr (fun S2 k2 hw2 => ?_) (by simp; omega)
  simp -implicitDefEqProofs (disch := omega) only [seval, go_sem]
  refine c_Writer_Text hw2.wr (fun S3 k3 hw3 => ?_) (by simp; omega) (by omega)
  simp -implicitDefEqProofs (disch := omega) only [seval, go_sem]
  refine c_Writer_Bytes hw3.wr ?_ (by simp; omega)
  simp -implicitDefEqProofs (disch := omega) only [seval, go_sem]
  have hpl : (text2 (sha ar) ++ texts2 refs ++ text2 nm).length ≤ 100000 := by simp only [List.length_append]; omega
  generalize hp : text2 (sha ar) ++ texts2 refs ++ text2 nm = p at hpl
  have h20 := fold20_len (sha p)
  refine c_hash_Short ?_
  simp -implicitDefEqProofs (disch := omega) only [seval, go_sem]
  refine c_base_Text ?_
  have h32 := txtS_len (fold20 (sha p))
  have h33 : ([UInt8.toBitVec 45] : Bs).length = 1 := rfl
  have h34 : (txtS (fold20 (sha p)) ++ [UInt8.toBitVec 45]).length = (txtS (fold20 (sha p))).length + 1 := by simp
  simp -implicitDefEqProofs (disch := omega) only [seval, go_sem]
  refine ⟨?_, ?_⟩
  · show TV.tup _ = _
    rw [mkV, if_neg (by rw [hrn]; simp), if_neg (by rw [hok]; simp), mkP, hp, List.append_assoc]
    rfl
  · have hF : Fr S ((((S.push (.cells 234 [.sl .full 0 []])).push .lin).push .lin).set S.n (.cells 234 [.sl (.own (S.n + 2)) 1 []])) [] := ((((Fr.refl S []).push _).push _).push _).set (.inr (Nat.le_refl _)) _
    have a1 := hw1.nk; have a2 := hw2.nk; have a3 := hw3.nk
    have b0 := hw1.fr.n; have b1 := hw2.fr.n; have b2 := hw3.fr.n; have b3 := hF.n
    simp only [TS.set_n, TS.push_n] at a1 b0 b3
    exact ((((hF.trans hw1.fr (by simp <;> omega)).trans hw2.fr (by simp <;> omega)).trans hw3.fr (by simp <;> omega)).push _).keep
end Go.Proofs.YtlljknmojafkoaaGreatDoor
namespace Go.Proofs.YtlljknmojafkoaaGreatDoor
open Go.RowKit TL
/-- A path that was made: its letters, its name. -/
def ltrP (nm ar : Bs) (refs : List Bs) : Bs := txtS (fold20 (sha (text2 (sha ar) ++ texts2 refs ++ text2 nm)))
theorem ltrP_len (nm ar : Bs) (refs : List Bs) : (ltrP nm ar refs).length = 32 := by rw [ltrP, txtS_len, fold20_len]
theorem mkP_eq (nm ar : Bs) (refs : List Bs) : mkP nm ar refs = ltrP nm ar refs ++ 45#8 :: nm := rfl
theorem mkP_len (nm ar : Bs) (refs : List Bs) : (mkP nm ar refs).length = 33 + nm.length := by rw [mkP_eq, List.length_append, ltrP_len, List.length_cons]; omega
theorem mkV_ok {nm ar : Bs} {refs : List Bs} (h : rightS nm = true) (hr : refsOk refs = true) : mkV nm ar refs = .tup [.lit (.string (st (mkP nm ar refs))), .lit (.int .i64 0)] := by
  rw [mkV, if_neg (by rw [h]; simp), if_neg (by rw [hr]; simp)]
abbrev nN : Bs := [UInt8.toBitVec 110]
theorem right_n : rightS nN = true := by decide +kernel
theorem refs_nil : refsOk [] = true := by decide +kernel
theorem c_New {S : TS} {K : TV → TS → Prop} (hK : K (.agg [.sl .none 1 (gD fW), .sl .none 1 (gD kW)]) S) : TCall env 46 [] S K :=
  c_godownref02_New (by rw [tabH_eq, tabK_eq]; exact hK)
/-- Make with no refs given. -/
theorem c_ref07_Make0 {S : TS} {nm ar : Bs} {ga : Tag} {K : TV → TS → Prop} (hK : K (.tup [.lit (.string (st (mkP nm ar []))), .lit (.int .i64 0)]) S) (hn : rightS nm = true) (ha : ar.length ≤ 1000000 := by omega) :
    TCall env 15 [.agg [.sl .none 1 (gD fW), .sl .none 1 (gD kW)], .lit (.string (st nm)), .sl ga 1 (dB ar), .sl .full 0 []] S K :=
  .argL (.same (.same (.same (.empty .nil)))) (c_godownref07_Make (g := .full) (refs := []) (by rw [mkV_ok hn refs_nil]; exact hK) (fun s h => by cases h) (by have := rightS_len hn; omega) ha (by simp))
end Go.Proofs.YtlljknmojafkoaaGreatDoor
namespace Go.Proofs.YtlljknmojafkoaaGreatDoor
open Go.RowKit TL
theorem lkT_f (v : TV) (b : Bool) : lkT false v b = v := rfl
theorem keyB_str (s : ByteArray) : isKeyB .string (.string s) = true := rfl
theorem st_old {S : TS} {id k : Nat} (o : TObj) (h2 : k ≠ id) : (S.set id o).objs k = S.objs k := by
  rw [set_sel, sel_ne h2]
theorem psh_old0 {S : TS} {k : Nat} {o o2 : TObj} (h : S.objs k = o) (hk : k < S.n) : (S.push o2).objs k = o := by
  rw [push_sel, sel_ne (Nat.ne_of_lt hk)]; exact h
/-- A claim: a path, a stamp. -/
abbrev Cl := Bs × BitVec 64
def cD (x : Cl) : D := .agg [.lit (.string (st x.1)), .lit (w64 x.2)]
def dC (l : List Cl) : List D := l.map cD
end Go.Proofs.YtlljknmojafkoaaGreatDoor
namespace Go.Proofs.YtlljknmojafkoaaGreatDoor
open Go.RowKit TL
set_option maxRecDepth 8000 in
set_option maxHeartbeats 1000000 in
theorem c_rows_New {S : TS} {K : TV → TS → Prop} (hK : K (.ptr (S.n + 1) 0) ((S.push (.map [] 0)).push (.cells 152 [.mp S.n, .sl .full 0 []]))) : TCall env 45 [] S K := by
  refine TCall.w 4 [.tmp 0] Tryz.func45 rfl rfl rfl rfl (by kernel_rfl) rfl ?_
  simp -implicitDefEqProofs (disch := omega) only [seval, go_sem]
  exact hK
set_option maxRecDepth 8000 in
set_option maxHeartbeats 1000000 in
theorem c_db_New {S : TS} {K : TV → TS → Prop} (hK : K (.ptr (S.n + 5) 0) ((((((S.push (.map [] 0)).push (.cells 152 [.mp S.n, .sl .full 0 []])).push (.map [] 0)).push (.map [] 0)).push (.map [] 0)).push (.cells 94 [.ptr (S.n + 1) 0, .mp (S.n + 2), .mp (S.n + 3), .mp (S.n + 4), .lit (w64 0#64)]))) : TCall env 13 [] S K := by
  refine TCall.w 7 [.tmp 0] Tryz.func13 rfl rfl rfl rfl (by kernel_rfl) rfl ?_
  simp -implicitDefEqProofs (disch := omega) only [seval, go_sem]
  refine c_rows_New ?_
  simp -implicitDefEqProofs (disch := omega) only [seval, go_sem]
  exact hK
end Go.Proofs.YtlljknmojafkoaaGreatDoor
namespace Go.Proofs.YtlljknmojafkoaaGreatDoor
open Go.RowKit TL
end Go.Proofs.YtlljknmojafkoaaGreatDoor
namespace Go.Proofs.YtlljknmojafkoaaGreatDoor
open Go.RowKit TL
/-- A row: path, name, archive, refs. -/
structure RowM where
  path : Bs
  name : Bs
  arc : Bs
  refs : List Bs
/-- How a row may stand as a value (its slices' tags; a nil slice has no size). -/
structure RowT where
  ga : Tag
  sa : Nat
  gr : Tag
  sr : Nat
def rowV (r : RowM) (t : RowT) : TV := .agg [.lit (.string (st r.path)), .lit (.string (st r.name)), .sl t.ga t.sa (dB r.arc), .sl t.gr t.sr (dT r.refs)]
theorem rowV_mk (r : RowM) (t : RowT) : rowV r t = .agg [.lit (.string (st r.path)), .lit (.string (st r.name)), .sl t.ga t.sa (dB r.arc), .sl t.gr t.sr (dT r.refs)] := rfl
theorem lkT_t (v : TV) (b : Bool) : lkT true v b = .tup [v, .lit (.bool b)] := rfl
def noRow : TV := .agg [.lit (.string (st [])), .lit (.string (st [])), .sl .full 0 [], .sl .full 0 []]
set_option maxRecDepth 8000 in
set_option maxHeartbeats 1000000 in
theorem c_rows_Get_yes {S : TS} {tab m clock : Nat} {j : TV} {es : Ents} {ks : List Bs} {p : Bs} {r : RowM} {t : RowT} {K : TV → TS → Prop} (ht : S.objs tab = .cells 152 [.mp m, j]) (hm : S.objs m = .map es clock) (mo : MapOk kS es clock ks) (htl : tab < S.n) (hml : m < S.n)
    (hg : getM kS es p = some (rowV r t)) (hK : K (.tup [rowV r t, .lit (.bool true)]) S) (hr : Ren S.n [] (rowV r t) (rowV r t)) :
    TCall env 143 [.ptr tab 0, .lit (.string (st p))] S K := by
  refine (TCall.pure (r := .tup [rowV r t, .lit (.bool true)]) ?_ (.tupF (.cons hr (.cons (.lit _) .nil)))).mono fun t S' ⟨h1, h2⟩ => by rw [h1, h2]; exact hK
  refine TCall.w 23 [.cell 4 40, .tmp 5] Tryz.func143 rfl rfl rfl rfl (by kernel_rfl) rfl ?_
  have hkeys : keysOk .string es = true := mo.ok
  have hlk : ∀ z, lookT (.string (st p)) es z = rowV r t := fun z => by
    show lookT (kS.v p) es _ = _
    rw [look_get, hg]; rfl
  have hfd : (findT (.string (st p)) es).isSome = true := by
    show (findT (kS.v p) es).isSome = _
    rw [found_get, hg]; rfl
  simp -implicitDefEqProofs (disch := omega) only [seval, go_sem, ht, hm, psh_old0 ht htl, hkeys, keyB_str, lkT_t, rowV_mk, hlk, hfd]
  exact ⟨_, resCell (id := S.n) rfl ti40 (psh_old0 (push_self _ _) (Nat.lt_succ_self _)) rfl rfl, rfl, (Keep.push _ _).push' _⟩
set_option maxRecDepth 8000 in
set_option maxHeartbeats 1000000 in
theorem c_rows_Get_no {S : TS} {tab m clock : Nat} {j : TV} {es : Ents} {ks : List Bs} {p : Bs} {K : TV → TS → Prop} (ht : S.objs tab = .cells 152 [.mp m, j]) (hm : S.objs m = .map es clock) (mo : MapOk kS es clock ks) (htl : tab < S.n) (hml : m < S.n)
    (hg : getM kS es p = none) (hK : K (.tup [noRow, .lit (.bool false)]) S) :
    TCall env 143 [.ptr tab 0, .lit (.string (st p))] S K := by
  refine (TCall.pure (r := .tup [noRow, .lit (.bool false)]) ?_ (.tupF (.cons (.aggF (.cons (.lit _) (.cons (.lit _) (.cons (.sl0 _ _ _ (.inr (.inl rfl))) (.cons (.sl0 _ _ _ (.inr (.inl rfl))) .nil))))) (.cons (.lit _) .nil)))).mono fun t S' ⟨h1, h2⟩ => by rw [h1, h2]; exact hK
  refine TCall.w 23 [.cell 4 40, .tmp 5] Tryz.func143 rfl rfl rfl rfl (by kernel_rfl) rfl ?_
  have hkeys : keysOk .string es = true := mo.ok
  have hlk : ∀ z, lookT (.string (st p)) es z = z := fun z => by
    show lookT (kS.v p) es _ = _
    rw [look_get, hg]; rfl
  have hfd : (findT (.string (st p)) es).isSome = false := by
    show (findT (kS.v p) es).isSome = _
    rw [found_get, hg]; rfl
  simp -implicitDefEqProofs (disch := omega) only [seval, go_sem, ht, hm, psh_old0 ht htl, hkeys, keyB_str, lkT_t, hlk, hfd]
  exact ⟨_, resCell (id := S.n) rfl ti40 (psh_old0 (push_self _ _) (Nat.lt_succ_self _)) rfl rfl, rfl, (Keep.push _ _).push' _⟩
end Go.Proofs.YtlljknmojafkoaaGreatDoor
namespace Go.Proofs.YtlljknmojafkoaaGreatDoor
open Go.RowKit TL
set_option maxRecDepth 8000 in
set_option maxHeartbeats 1000000 in
theorem c_rows_Len {S : TS} {tab m clock : Nat} {j : TV} {es : Ents} {K : TV → TS → Prop} (ht : S.objs tab = .cells 152 [.mp m, j]) (hm : S.objs m = .map es clock) (hK : K (.lit (.int .i64 (es.length : Int))) S) :
    TCall env 154 [.ptr tab 0] S K := by
  refine TCall.w 10 [.tmp 2] Tryz.func154 rfl rfl rfl rfl (by kernel_rfl) rfl ?_
  simp -implicitDefEqProofs (disch := omega) only [seval, go_sem, ht, hm]
  exact hK
set_option maxRecDepth 8000 in
set_option maxHeartbeats 1000000 in
theorem c_rows_Done {S : TS} {tab m : Nat} {j : TV} {K : TV → TS → Prop} (ht : S.objs tab = .cells 152 [.mp m, j]) (hK : K (.tup []) (S.set tab (.cells 152 [.mp m, .sl .full 0 []]))) :
    TCall env 56 [.ptr tab 0] S K := by
  refine TCall.w 7 [] Tryz.func56 rfl rfl rfl rfl (by kernel_rfl) rfl ?_
  simp -implicitDefEqProofs (disch := omega) only [seval, go_sem, ht]
  exact hK
set_option maxRecDepth 8000 in
set_option maxHeartbeats 1000000 in
theorem c_db_row_yes {S : TS} {s tab m clock : Nat} {j x1 x2 x3 x4 : TV} {es : Ents} {ks : List Bs} {p : Bs} {r : RowM} {t : RowT} {K : TV → TS → Prop} (hs : S.objs s = .cells 94 [.ptr tab 0, x1, x2, x3, x4]) (hsl : s < S.n) (ht : S.objs tab = .cells 152 [.mp m, j]) (hm : S.objs m = .map es clock) (mo : MapOk kS es clock ks) (htl : tab < S.n) (hml : m < S.n)
    (hg : getM kS es p = some (rowV r t)) (hK : K (.tup [rowV r t, .lit (.bool true)]) S) (hr : ∀ n, S.n ≤ n → Ren n [] (rowV r t) (rowV r t)) :
    TCall env 89 [.ptr s 0, .lit (.string (st p))] S K := by
  refine (TCall.pure (r := .tup [rowV r t, .lit (.bool true)]) ?_ (.tupF (.cons (hr _ (Nat.le_refl _)) (.cons (.lit _) .nil)))).mono fun t S' ⟨h1, h2⟩ => by rw [h1, h2]; exact hK
  refine TCall.w 17 [.cell 4 40, .tmp 5] Tryz.func89 rfl rfl rfl rfl (by kernel_rfl) rfl ?_
  simp -implicitDefEqProofs (disch := omega) only [seval, go_sem, hs, psh_old0 hs hsl]
  refine c_rows_Get_yes (psh_old0 ht htl) (psh_old0 hm hml) mo (Nat.lt_succ_of_lt htl) (Nat.lt_succ_of_lt hml) hg ?_ (hr _ (Nat.le_succ _))
  simp -implicitDefEqProofs (disch := omega) only [seval, go_sem, rowV_mk]
  exact ⟨_, resCell (id := S.n) rfl ti40 (push_self _ _) rfl rfl, rfl, Keep.push _ _⟩
set_option maxRecDepth 8000 in
set_option maxHeartbeats 1000000 in
theorem c_db_row_no {S : TS} {s tab m clock : Nat} {j x1 x2 x3 x4 : TV} {es : Ents} {ks : List Bs} {p : Bs} {K : TV → TS → Prop} (hs : S.objs s = .cells 94 [.ptr tab 0, x1, x2, x3, x4]) (hsl : s < S.n) (ht : S.objs tab = .cells 152 [.mp m, j]) (hm : S.objs m = .map es clock) (mo : MapOk kS es clock ks) (htl : tab < S.n) (hml : m < S.n)
    (hg : getM kS es p = none) (hK : K (.tup [noRow, .lit (.bool false)]) S) :
    TCall env 89 [.ptr s 0, .lit (.string (st p))] S K := by
  refine (TCall.pure (r := .tup [noRow, .lit (.bool false)]) ?_ (.tupF (.cons (.aggF (.cons (.lit _) (.cons (.lit _) (.cons (.sl0 _ _ _ (.inr (.inl rfl))) (.cons (.sl0 _ _ _ (.inr (.inl rfl))) .nil))))) (.cons (.lit _) .nil)))).mono fun t S' ⟨h1, h2⟩ => by rw [h1, h2]; exact hK
  refine TCall.w 17 [.cell 4 40, .tmp 5] Tryz.func89 rfl rfl rfl rfl (by kernel_rfl) rfl ?_
  simp -implicitDefEqProofs (disch := omega) only [seval, go_sem, hs, psh_old0 hs hsl]
  refine c_rows_Get_no (psh_old0 ht htl) (psh_old0 hm hml) mo (Nat.lt_succ_of_lt htl) (Nat.lt_succ_of_lt hml) hg ?_
  have hno : noRow = .agg [.lit (.string (st [])), .lit (.string (st [])), .sl .full 0 [], .sl .full 0 []] := rfl
  simp -implicitDefEqProofs (disch := omega) only [seval, go_sem, hno]
  exact ⟨_, resCell (id := S.n) rfl ti40 (push_self _ _) rfl rfl, rfl, Keep.push _ _⟩
end Go.Proofs.YtlljknmojafkoaaGreatDoor
namespace Go.Proofs.YtlljknmojafkoaaGreatDoor
open Go.RowKit TL
end Go.Proofs.YtlljknmojafkoaaGreatDoor
namespace Go.Proofs.YtlljknmojafkoaaGreatDoor
open Go.RowKit TL
theorem set_same {S : TS} {i : Nat} {o : TObj} (h : S.objs i = o) : S.set i o = S := by rw [← h]; exact set_self S i
set_option maxRecDepth 8000 in
set_option maxHeartbeats 1000000 in
theorem c_touch {S : TS} {s mst clock : Nat} {x0 x1 x2 : TV} {v : BitVec 64} {g : Tag} {es : Ents} {ks : List Bs} {sz : Nat} {l : List Bs} {K : TV → TS → Prop} (hs : S.objs s = .cells 94 [x0, x1, x2, .mp mst, .lit (w64 v)]) (hm : S.objs mst = .map es clock) (mo : MapOk kS es clock ks) (hne : s ≠ mst)
    (hK : ∀ es' clock' ks', MapOk kS es' clock' ks' → (∀ p, getM kS es' p = if p ∈ l then some (.lit (w64 v)) else getM kS es p) → K (.tup []) (S.set mst (.map es' clock'))) (hz : sz = 1 ∨ l = []) (hl : l.length ≤ 1000000 := by omega) :
    TCall env 59 [.ptr s 0, .sl g sz (dT l)] S K := by
  refine TCall.w 22 [] Tryz.func59 rfl rfl rfl rfl (by kernel_rfl) rfl ?_
  simp -implicitDefEqProofs (disch := omega) only [seval, go_sem]
  refine loW_inv (fun n T S' => ∃ (i : Nat) (es' : Ents) (clock' : Nat) (ks' : List Bs), n + i = l.length ∧ T 0 = .ptr s 0 ∧ T 6 = .sl g sz (dT l) ∧ T 7 = .lit (.int .i64 (l.length : Int)) ∧ T 8 = .lit (.int .i64 (i : Int)) ∧
    MapOk kS es' clock' ks' ∧ (∀ p, getM kS es' p = if p ∈ l.take i then some (.lit (w64 v)) else getM kS es p) ∧ S' = S.set mst (.map es' clock')) l.length ?_ ?_
  · exact ⟨0, es, clock, ks, rfl, rfl, rfl, rfl, rfl, mo, fun p => by simp, (set_same hm).symm⟩
  rintro n T S1 ⟨i, es', clock', ks', hi, h0, h6, h7, h8, mo', hg, rfl⟩
  have hs' : (S.set mst (.map es' clock')).objs s = .cells 94 [x0, x1, x2, .mp mst, .lit (w64 v)] := (st_old _ hne).trans hs
  have hm' : (S.set mst (.map es' clock')).objs mst = .map es' clock' := by rw [TS.set_objs, if_pos rfl]
  have hkeys : keysOk .string es' = true := mo'.ok
  simp -implicitDefEqProofs (disch := omega) only [seval, go_sem, h0, h6, h7, h8]
  refine cdK_d (fun hc => ?_) (fun hc => ?_)
  · have hlt : i < l.length := by omega
    have hz1 : sz = 1 := hz.resolve_right fun e => by rw [e] at hlt; simp at hlt
    subst hz1
    have htk := take_succ_D l (i := i) [] hlt
    generalize hx : l.getD i [] = x at *
    simp -implicitDefEqProofs (disch := omega) only [seval, go_sem, h0, h6, h7, h8, hx]
    refine drW_at [(0,0),(1,0),(2,0),(3,0),(4,0),(5,0),(6,0),(7,0),(8,0),(9,2)] followsN (by kernel_rfl) ?_
    simp -implicitDefEqProofs (disch := omega) only [seval, go_sem, h0, h6, h7, h8, hx, hs, hne, hkeys, keyB_str]
    refine ⟨n - 1, by omega, i + 1, _, _, _, by omega, h0, h6, h7, rfl, mo'.put x _, fun q => ?_, TS.set_set _ _ _ _⟩
    rw [mo'.get_put, hg, htk]
    by_cases hq : q = x
    · subst hq; simp
    · simp [hq]
  · have e : i = l.length := by omega
    subst e
    rw [List.take_length] at hg
    simp -implicitDefEqProofs (disch := omega) only [seval, go_sem, h0, h6, h7, h8]
    exact hK _ _ _ mo' hg
end Go.Proofs.YtlljknmojafkoaaGreatDoor
namespace Go.Proofs.YtlljknmojafkoaaGreatDoor
open Go.RowKit TL
end Go.Proofs.YtlljknmojafkoaaGreatDoor
namespace Go.Proofs.YtlljknmojafkoaaGreatDoor
open Go.RowKit TL
set_option maxRecDepth 8000 in
set_option maxHeartbeats 1000000 in
theorem c_Clone_TV {S : TS} {g : Tag} {s : Nat} {l : List Bs} {K : TV → TS → Prop} (hK : K (.vs S.n 0 1 l.length) (S.push (.cells 9 (cellsD (dT l))))) (hs : s = 1 ∨ l = []) (hl : l.length ≤ 1000000 := by omega) :
    TCall env 92 [.sl g s (dT l)] S K := by
  refine (TCall.bufE (e := 9) (cs := cellsD (dT l)) (s := 1) (len := l.length) ?_ (lits_F (fun s : Bs => Value.string (st s)) l)).mono fun t S' ⟨h1, h2⟩ => by rw [h1, h2]; exact hK
  refine TCall.w 8 [.tmp 2] Tryz.func92 rfl rfl rfl rfl (by kernel_rfl) rfl ?_
  have hdl := dT_len l
  by_cases hemp : l = []
  · subst hemp
    have hd0 : dT ([] : List Bs) = [] := rfl
    simp -implicitDefEqProofs (disch := omega) only [seval, go_sem, hd0]
    refine ⟨⟨.inr ⟨0, rfl⟩, Keep.refl _⟩, ?_⟩
    have he : (if s = 1 then some [] else if ([] : List D).isEmpty = true then some [] else none) = some ([] : List D) := by split <;> rfl
    rw [he]
    exact ⟨by simp, .inl ⟨_, rfl, Nat.le_succ _, push_self _ _⟩, (Keep.push _ _).push' _⟩
  · have hs2 : s = 1 := hs.resolve_right hemp
    subst hs2
    have hpos : 0 < l.length := List.length_pos_iff.2 hemp
    simp -implicitDefEqProofs (disch := omega) only [seval, go_sem, hdl]
    exact ⟨fun h => absurd (List.map_eq_nil_iff.1 h) hemp, .inl ⟨_, rfl, Nat.le_succ _, push_self _ _⟩, (Keep.push _ _).push' _⟩
theorem c_Clone_T {S : TS} {g : Tag} {s : Nat} {l : List Bs} {K : TV → TS → Prop} (hK : K (.sl (.own S.n) 1 (dT l)) (S.push .lin)) (hs : s = 1 ∨ l = []) (hl : l.length ≤ 1000000 := by omega) :
    TCall env 92 [.sl g s (dT l)] S K :=
  (TCall.freeze (e := 9) (ag := false) (s := 1) (len := l.length) (cs := cellsD (dT l)) (ds := dT l) (c_Clone_TV ⟨_, rfl, Nat.le_refl _, push_self _ _, Keep.push _ _⟩ hs hl) (by rw [cT_len]; omega)
    fun S' id ho => srcD_F (fun s : Bs => Value.string (st s)) (fun _ => rfl) ho rfl (by unfold LIM; omega)).mono fun t S' ⟨h1, h2⟩ => by rw [h1, h2]; exact hK
end Go.Proofs.YtlljknmojafkoaaGreatDoor
namespace Go.Proofs.YtlljknmojafkoaaGreatDoor
open Go.RowKit TL
theorem ltS_lt (a b : Bs) : ltS a b = decide (toU a < toU b) := by rw [← ltS_ok, Go.Proofs.bytesLess_eq]; rfl
theorem sortB_len (l : List Bs) : (sortB l).length = l.length := by simp [sortB]
theorem sortB_mem (l : List Bs) (x : Bs) : x ∈ sortB l ↔ x ∈ l := by
  have hp := List.mergeSort_perm (l.map toU) (fun x y => decide (x ≤ y))
  have : (sortB l).Perm l := by
    have := hp.map ofU
    rw [map_ofU_toU] at this
    exact this
  exact this.mem_iff
theorem leS_iff (a b : Bs) : decide (toU a ≤ toU b) = !ltS b a := by
  rw [ltS_lt, ← decide_not]
  rfl
theorem sortB_sorted (l : List Bs) : (sortB l).Pairwise fun a b => ltS b a = false := by
  have h := List.pairwise_mergeSort (le := fun x y : List UInt8 => decide (x ≤ y)) (fun a b c h1 h2 => by simpa using List.le_trans (of_decide_eq_true h1) (of_decide_eq_true h2)) (fun a b => by simpa using List.le_total a b) (l.map toU)
  unfold sortB
  rw [List.pairwise_map]
  refine h.imp fun {a b} hab => ?_
  have := leS_iff (ofU a) (ofU b)
  rw [toU_ofU, toU_ofU, hab] at this
  cases h : ltS (ofU b) (ofU a)
  · rfl
  · rw [h] at this; cases this
/-- Texts that are all different: sorted they are the reference's. -/
theorem sortB_rise {l : List Bs} (h : l.Nodup) : sortB l = riseL l := by
  have hp : (sortB l).Perm l := by
    have := (List.mergeSort_perm (l.map toU) (fun x y => decide (x ≤ y))).map ofU
    rw [map_ofU_toU] at this
    exact this
  have hnd : (sortB l).Nodup := hp.nodup_iff.2 h
  refine ris_ext ?_ (riseL_ris l) fun y => by rw [sortB_mem, riseL_mem]
  refine List.Pairwise.imp₂ (fun a b h1 h2 => ?_) (sortB_sorted l) hnd
  rcases ltS_total a b with h | h | h
  · exact h
  · exact absurd h h2
  · rw [h1] at h; cases h
theorem riseL_perm {a b : List Bs} (h : ∀ x, x ∈ a ↔ x ∈ b) : riseL a = riseL b := ris_ext (riseL_ris a) (riseL_ris b) fun y => by rw [riseL_mem, riseL_mem, h]
end Go.Proofs.YtlljknmojafkoaaGreatDoor
namespace Go.Proofs.YtlljknmojafkoaaGreatDoor
open Go.RowKit TL
/-- The document's store. -/
structure StM where
  L : List RowM
  roots : List Bs
  ver : BitVec 64
  tc : List (Bs × BitVec 64)
def StM.new : StM := ⟨[], [], 0#64, []⟩
def rowAt (L : List RowM) (p : Bs) : Option RowM := L.find? fun r => decide (r.path = p)
def hasP (L : List RowM) (p : Bs) : Bool := (rowAt L p).isSome
def refsOf (L : List RowM) (p : Bs) : List Bs := match rowAt L p with | some r => r.refs | none => []
def pathsOf (L : List RowM) : List Bs := L.map (·.path)
def stampT (tc : List (Bs × BitVec 64)) (p : Bs) : BitVec 64 := tc.foldl (fun a x => if x.1 = p then x.2 else a) 0#64
def fitsR (r : RowM) : Bool := rightS r.name && refsOk r.refs && decide (mkP r.name r.arc r.refs = r.path)
theorem rowAt_path {L : List RowM} {p : Bs} {r : RowM} (h : rowAt L p = some r) : r.path = p ∧ r ∈ L := ⟨of_decide_eq_true (List.find?_some (p := fun r : RowM => decide (r.path = p)) h), List.mem_of_find?_eq_some h⟩
theorem hasP_iff (L : List RowM) (p : Bs) : hasP L p = true ↔ p ∈ pathsOf L := by
  unfold hasP rowAt pathsOf
  rw [List.find?_isSome]
  simp only [decide_eq_true_eq, List.mem_map]
theorem rowAt_none {L : List RowM} {p : Bs} : rowAt L p = none ↔ hasP L p = false := by
  unfold hasP; cases rowAt L p <;> simp
theorem rowAt_app (L fr : List RowM) (p : Bs) : rowAt (L ++ fr) p = (rowAt L p).or (rowAt fr p) := by
  unfold rowAt; rw [List.find?_append]
theorem hasP_app (L fr : List RowM) (p : Bs) : hasP (L ++ fr) p = (hasP L p || hasP fr p) := by
  unfold hasP; rw [rowAt_app]; cases rowAt L p <;> rfl
theorem hasP_one (r : RowM) (p : Bs) : hasP [r] p = decide (r.path = p) := by
  unfold hasP rowAt; by_cases h : r.path = p <;> simp [h]
theorem rowAt_one (r : RowM) (p : Bs) : rowAt [r] p = if p = r.path then some r else none := by
  unfold rowAt
  by_cases h : r.path = p
  · rw [if_pos h.symm]; simp [h]
  · rw [if_neg (fun e => h e.symm)]; simp [h]
theorem rowAt_filter (L : List RowM) (p q : Bs) : rowAt (L.filter fun r => !decide (r.path = p)) q = if q = p then none else rowAt L q := by
  unfold rowAt
  induction L with
  | nil => simp
  | cons r L ih =>
    rw [List.filter_cons]
    by_cases hr : r.path = p
    · rw [if_neg (by simp [hr]), ih]
      by_cases hq : q = p
      · rw [if_pos hq, if_pos hq]
      · rw [if_neg hq, if_neg hq, List.find?_cons, decide_eq_false (show ¬ r.path = q from fun e => hq (by rw [← e, hr]))]
    · rw [if_pos (by simp [hr]), List.find?_cons, List.find?_cons, ih]
      by_cases hrq : r.path = q
      · rw [decide_eq_true hrq]
        simp only
        rw [if_neg (fun e => hr (by rw [hrq, e]))]
      · rw [decide_eq_false hrq]
theorem stampT_app (tc : List (Bs × BitVec 64)) (l : List Bs) (v : BitVec 64) (p : Bs) : stampT (tc ++ l.map fun q => (q, v)) p = if p ∈ l then v else stampT tc p := by
  unfold stampT
  rw [List.foldl_append]
  generalize tc.foldl (fun a x => if x.1 = p then x.2 else a) 0#64 = a
  induction l generalizing a with
  | nil => simp
  | cons q l ih =>
    rw [List.map_cons, List.foldl_cons, ih]
    by_cases hq : q = p
    · subst hq; simp
    · have : ¬ p = q := fun e => hq e.symm
      simp [hq, this]
/-! ### what is done -/
def touchM (M : StM) (l : List Bs) : StM := { M with tc := M.tc ++ l.map fun p => (p, M.ver) }
def putF (L : List RowM) : List RowM → List RowM → Int × List RowM
  | [], fr => (0, fr)
  | r :: l, fr =>
    if fitsR r = false then (4, fr)
    else if hasP (L ++ fr) r.path = true then putF L l fr
    else if r.refs.all (hasP (L ++ fr)) = false then (6, fr)
    else if 64 ≤ (L ++ fr).length then (3, fr)
    else putF L l (fr ++ [r])
def rowTouch (r : RowM) : List Bs := r.path :: r.refs
def putM (M : StM) (l : List RowM) : StM × Int :=
  if (putF M.L l []).1 ≠ 0 then (M, (putF M.L l []).1)
  else if (putF M.L l []).2 = [] then (M, 0)
  else (touchM { M with L := M.L ++ (putF M.L l []).2, ver := M.ver + 1#64 } ((putF M.L l []).2.flatMap rowTouch), 0)
def rootM (M : StM) (p : Bs) : StM × Int :=
  if hasP M.L p = false then (M, 5)
  else if p ∈ M.roots then (M, 0)
  else if 16 ≤ M.roots.length then (M, 3)
  else (touchM { M with roots := riseL (M.roots ++ [p]), ver := M.ver + 1#64 } [p], 0)
def withoutL (l : List Bs) (p : Bs) : List Bs := l.filter fun x => !decide (x = p)
def cutM (M : StM) (gone : List Bs) : StM :=
  touchM { M with L := M.L.filter fun r => !decide (r.path ∈ gone), ver := M.ver + 1#64 } ((M.L.filter fun r => decide (r.path ∈ gone)).flatMap rowTouch)
def referrersL (L : List RowM) (p : Bs) : List Bs := riseL (pathsOf (L.filter fun r => decide (p ∈ r.refs)))
def deleteM (M : StM) (p : Bs) : StM × Int :=
  if hasP M.L p = false then (M, 5)
  else if p ∈ M.roots ∨ withoutL (referrersL M.L p) p ≠ [] then (M, 7)
  else (cutM M [p], 0)
def stepR (L : List RowM) (l : List Bs) : List Bs := riseL (l ++ (l.flatMap (refsOf L)).filter (hasP L))
def reachN (L : List RowM) : Nat → List Bs → List Bs
  | 0, l => l
  | n + 1, l => if (stepR L l).length = l.length then l else reachN L n (stepR L l)
def reachL (L : List RowM) (from_ : List Bs) : List Bs := reachN L (L.length + 1) (riseL (from_.filter (hasP L)))
def sweepM (M : StM) : StM × List Bs :=
  if (pathsOf M.L).filter (fun p => !decide (p ∈ reachL M.L M.roots)) = [] then (M, [])
  else (cutM M ((pathsOf M.L).filter fun p => !decide (p ∈ reachL M.L M.roots)), riseL ((pathsOf M.L).filter fun p => !decide (p ∈ reachL M.L M.roots)))
/-! ### what is reached -/
inductive Rch (L : List RowM) (from_ : List Bs) : Bs → Prop
  | base {p : Bs} (h : p ∈ from_) (hp : hasP L p = true) : Rch L from_ p
  | step {p q : Bs} (h : Rch L from_ p) (hq : q ∈ refsOf L p) (hp : hasP L q = true) : Rch L from_ q
theorem Rch.has {L : List RowM} {from_ : List Bs} {p : Bs} (h : Rch L from_ p) : hasP L p = true := by
  cases h with
  | base _ hp => exact hp
  | step _ _ hp => exact hp
theorem stepR_ris (L : List RowM) (l : List Bs) : Ris (stepR L l) := riseL_ris _
theorem stepR_mem (L : List RowM) (l : List Bs) (q : Bs) : q ∈ stepR L l ↔ q ∈ l ∨ ((∃ p ∈ l, q ∈ refsOf L p) ∧ hasP L q = true) := by
  unfold stepR
  rw [riseL_mem, List.mem_append, List.mem_filter, List.mem_flatMap]
theorem ris_nodup {l : List Bs} (h : Ris l) : l.Nodup := h.imp fun {a b} hab e => by subst e; rw [ltS_irrefl] at hab; cases hab
theorem nodup_len {α : Type} : ∀ {a b : List α}, a.Nodup → (∀ x ∈ a, x ∈ b) → a.length ≤ b.length
  | [], _, _, _ => Nat.zero_le _
  | x :: a, b, ha, h => by
    obtain ⟨b1, b2, rfl⟩ := List.append_of_mem (h x (by simp))
    rw [List.nodup_cons] at ha
    have := nodup_len (a := a) (b := b1 ++ b2) ha.2 fun y hy => by
      have h1 := h y (List.mem_cons_of_mem _ hy)
      simp only [List.mem_append, List.mem_cons] at h1 ⊢
      rcases h1 with h1 | h1 | h1
      · exact .inl h1
      · subst h1; exact absurd hy ha.1
      · exact .inr h1
    simp only [List.length_append, List.length_cons] at this ⊢
    omega
theorem nodup_all {α : Type} {a b : List α} (ha : a.Nodup) (h : ∀ x ∈ a, x ∈ b) (hl : b.length ≤ a.length) : ∀ y ∈ b, y ∈ a := by
  intro y hy
  apply Classical.byContradiction
  intro hn
  have := nodup_len (a := y :: a) (b := b) (List.nodup_cons.2 ⟨hn, ha⟩) fun x hx => by
    rcases List.mem_cons.1 hx with e | hx
    · rw [e]; exact hy
    · exact h x hx
  simp only [List.length_cons] at this
  omega
theorem ris_len_eq {a b : List Bs} (ha : Ris a) (hb : Ris b) (h : ∀ x ∈ a, x ∈ b) (hl : b.length = a.length) : a = b :=
  ris_ext ha hb fun y => ⟨h y, nodup_all (ris_nodup ha) h (by omega) y⟩
theorem reachN_ok {L : List RowM} {from_ : List Bs} : ∀ (n : Nat) (l : List Bs), Ris l → (∀ p ∈ l, Rch L from_ p) → (∀ p ∈ from_, hasP L p = true → p ∈ l) → L.length + 1 ≤ n + l.length →
    Ris (reachN L n l) ∧ ∀ p, p ∈ reachN L n l ↔ Rch L from_ p
  | 0, l, hr, h1, h2, hn => by
    have : l.length ≤ (pathsOf L).length := nodup_len (ris_nodup hr) fun p hp => (hasP_iff L p).1 (h1 p hp).has
    simp [pathsOf] at this
    omega
  | n + 1, l, hr, h1, h2, hn => by
    unfold reachN
    have hsub : ∀ x ∈ l, x ∈ stepR L l := fun x hx => (stepR_mem L l x).2 (.inl hx)
    split
    · rename_i heq
      have e := ris_len_eq hr (stepR_ris L l) hsub heq
      refine ⟨hr, fun p => ⟨h1 p, fun hp => ?_⟩⟩
      induction hp with
      | base h hp => exact h2 _ h hp
      | step h hq hp ih => rw [e]; exact (stepR_mem L l _).2 (.inr ⟨⟨_, ih, hq⟩, hp⟩)
    · rename_i hne
      refine reachN_ok n _ (stepR_ris L l) (fun p hp => ?_) (fun p hp hh => hsub p (h2 p hp hh)) ?_
      · rcases (stepR_mem L l p).1 hp with hp | ⟨⟨q, hq, hpq⟩, hh⟩
        · exact h1 p hp
        · exact .step (h1 q hq) hpq hh
      · have := nodup_len (ris_nodup hr) hsub
        omega
theorem reachL_ok (L : List RowM) (from_ : List Bs) : Ris (reachL L from_) ∧ ∀ p, p ∈ reachL L from_ ↔ Rch L from_ p := by
  refine reachN_ok _ _ (riseL_ris _) (fun p hp => ?_) (fun p hp hh => ?_) (by omega)
  · rw [riseL_mem, List.mem_filter] at hp
    exact .base hp.1 hp.2
  · rw [riseL_mem, List.mem_filter]; exact ⟨hp, hh⟩
end Go.Proofs.YtlljknmojafkoaaGreatDoor
namespace Go.Proofs.YtlljknmojafkoaaGreatDoor
open Go.RowKit TL
theorem sortsS (m : Nat) : Go.Proofs.AnyZ.SortsIn Tryz.prog Go.Proofs.Tryz.sdS_ren Fence.wide m :=
  ⟨fun blk off cap ss W hH hblk hsz => callsIn_wide.2 (Go.Proofs.AnyM.slices_Sort_string Go.Proofs.Tryz.soS blk off cap ss W hH hblk hsz),
   fun p cap W => callsIn_wide.2 (Go.Proofs.AnyM.slices_Sort_string_none Go.Proofs.Tryz.soS p cap W)⟩
theorem und_string : env.P.underlying 9 = some .string := by kernel_rfl
set_option maxRecDepth 8000 in
set_option maxHeartbeats 1000000 in
theorem c_Keys_kRow {S : TS} {m : Nat} {K : TV → TS → Prop} (hK : K (.fn (.func 158) [] [.ptr S.n 0]) (S.push (.cells 149 [.mp m]))) : TCall env 114 [.mp m] S K := by
  refine TCall.w 4 [.tmp 2] Tryz.func114 rfl rfl rfl rfl (by kernel_rfl) rfl ?_
  simp -implicitDefEqProofs (disch := omega) only [seval, go_sem]
  exact hK
set_option maxRecDepth 8000 in
set_option maxHeartbeats 1000000 in
theorem c_Sorted_kRow {S : TS} {box m clock : Nat} {es : Ents} {ks : List Bs} {K : TV → TS → Prop} (ho : S.objs box = .cells 149 [.mp m]) (hm : S.objs m = .map es clock) (mo : MapOk kS es clock ks) (hl : ks.length ≤ 1000000) (hkl : ∀ k ∈ ks, k.length ≤ 1000000)
    (hK : K (.vs S.n 0 1 ks.length) (S.push (.cells 9 (cellsD (dT (sortB ks)))))) : TCall env 113 [.fn (.func 158) [] [.ptr box 0]] S K :=
  (TCall.sortedKeys ho hm mo hl hkl und_string (ent_of Tryz.func113 rfl rfl) fun w Bm b nn D0 hBm hcell hown hmax hbytes => (callsIn_wide (n := 5)).1
    (Go.Proofs.AnyZ.sorted_in Go.Proofs.Tryz.sdS Fence.wide 5 trivial trivial trivial trivial rfl (by omega) (sortsS _) (enters_of Tryz.func136 (by kernel_rfl) rfl) 158 #[.pointer (some ⟨Bm, 0, none⟩)] trivial
      (enters_of Tryz.func158 (by kernel_rfl) rfl) _ _ hmax hbytes _ (Go.Proofs.AnyZ.keys_gives (ρ := Go.Proofs.Tryz.kRow_ren) { Go.Proofs.Tryz.kRow with } Fence.wide _ trivial rfl (by omega) Bm b nn D0 _ hBm hcell hown))).mono fun t S' ⟨h1, h2⟩ => by rw [h1, h2]; exact hK
set_option maxRecDepth 8000 in
set_option maxHeartbeats 1000000 in
theorem c_Keys_kSet {S : TS} {m : Nat} {K : TV → TS → Prop} (hK : K (.fn (.func 193) [] [.ptr S.n 0]) (S.push (.cells 91 [.mp m]))) : TCall env 146 [.mp m] S K := by
  refine TCall.w 4 [.tmp 2] Tryz.func146 rfl rfl rfl rfl (by kernel_rfl) rfl ?_
  simp -implicitDefEqProofs (disch := omega) only [seval, go_sem]
  exact hK
set_option maxRecDepth 8000 in
set_option maxHeartbeats 1000000 in
theorem c_Sorted_kSet {S : TS} {box m clock : Nat} {es : Ents} {ks : List Bs} {K : TV → TS → Prop} (ho : S.objs box = .cells 91 [.mp m]) (hm : S.objs m = .map es clock) (mo : MapOk kS es clock ks) (hl : ks.length ≤ 1000000) (hkl : ∀ k ∈ ks, k.length ≤ 1000000)
    (hK : K (.vs S.n 0 1 ks.length) (S.push (.cells 9 (cellsD (dT (sortB ks)))))) : TCall env 113 [.fn (.func 193) [] [.ptr box 0]] S K :=
  (TCall.sortedKeys ho hm mo hl hkl und_string (ent_of Tryz.func113 rfl rfl) fun w Bm b nn D0 hBm hcell hown hmax hbytes => (callsIn_wide (n := 5)).1
    (Go.Proofs.AnyZ.sorted_in Go.Proofs.Tryz.sdS Fence.wide 5 trivial trivial trivial trivial rfl (by omega) (sortsS _) (enters_of Tryz.func136 (by kernel_rfl) rfl) 193 #[.pointer (some ⟨Bm, 0, none⟩)] trivial
      (enters_of Tryz.func193 (by kernel_rfl) rfl) _ _ hmax hbytes _ (Go.Proofs.AnyZ.keys_gives (ρ := Go.Proofs.Tryz.kSet_ren) { Go.Proofs.Tryz.kSet with } Fence.wide _ trivial rfl (by omega) Bm b nn D0 _ hBm hcell hown))).mono fun t S' ⟨h1, h2⟩ => by rw [h1, h2]; exact hK
end Go.Proofs.YtlljknmojafkoaaGreatDoor
namespace Go.Proofs.YtlljknmojafkoaaGreatDoor
open Go.RowKit TL
def rowN (r : RowM) : TV := rowV r ⟨.none, 1, .none, 1⟩
theorem rowN_mk (r : RowM) : rowN r = .agg [.lit (.string (st r.path)), .lit (.string (st r.name)), .sl .none 1 (dB r.arc), .sl .none 1 (dT r.refs)] := rfl
def rowO : Option RowM → TV
  | some r => rowN r
  | none => noRow
theorem noRow_mk : noRow = .agg [.lit (.string (st [])), .lit (.string (st [])), .sl .full 0 [], .sl .full 0 []] := rfl
theorem TS.set_same' (S : TS) (id : Nat) (o : TObj) : (S.set id o).objs id = o := by rw [TS.set_objs, if_pos rfl]
theorem ren_rowN (n : Nat) (L : List Nat) (r : RowM) : Ren n L (rowN r) (rowN r) := .aggF (.cons (.lit _) (.cons (.lit _) (.cons (.sl0 _ _ _ (.inl rfl)) (.cons (.sl0 _ _ _ (.inl rfl)) .nil))))
def jE (p : Bs) : Option RowM → D
  | some r => .agg [.lit (.string (st p)), .lit (.string (st r.path)), .lit (.string (st r.name)), .sl 1 (dB r.arc), .sl 1 (dT r.refs), .lit (.bool true)]
  | none => .agg [.lit (.string (st p)), .lit (.string (st [])), .lit (.string (st [])), .sl 0 [], .sl 0 [], .lit (.bool false)]
structure MapRow (S : TS) (rm : Nat) (L : List RowM) (es : Ents) (clock : Nat) (ks : List Bs) : Prop where
  om : S.objs rm = .map es clock
  mo : MapOk kS es clock ks
  get : ∀ p, getM kS es p = (rowAt L p).map rowN
  keys : ks.Perm (pathsOf L)
/-- A table: its rows; its journal (a row that may be written). -/
structure TabOk (S : TS) (tab rm k : Nat) (L : List RowM) (jd : List D) : Prop where
  ot : S.objs tab = .cells 152 [.mp rm, .vs k 0 6 jd.length]
  oj : S.objs k = .cells 167 (cellsD jd)
  jl : (cellsD jd).length = jd.length * 6
  om : ∃ es clock ks, MapRow S rm L es clock ks
  lt : tab < S.n ∧ rm < S.n ∧ k < S.n
  ne : tab ≠ rm ∧ tab ≠ k ∧ rm ≠ k
def tabF (tab rm k : Nat) (id : Nat) : Prop := id = tab ∨ id = rm ∨ id = k
theorem MapRow.fr {S S' : TS} {rm : Nat} {L : List RowM} {es : Ents} {clock : Nat} {ks : List Bs} (h : MapRow S rm L es clock ks) (ho : S'.objs rm = S.objs rm) : MapRow S' rm L es clock ks := ⟨ho.trans h.om, h.mo, h.get, h.keys⟩
theorem TabOk.fr {S S' : TS} {tab rm k : Nat} {L : List RowM} {jd : List D} (h : TabOk S tab rm k L jd) (hn : S.n ≤ S'.n) (ho : ∀ id, tabF tab rm k id → S'.objs id = S.objs id) : TabOk S' tab rm k L jd :=
  ⟨(ho _ (.inl rfl)).trans h.ot, (ho _ (.inr (.inr rfl))).trans h.oj, h.jl, let ⟨es, c, ks, g⟩ := h.om; ⟨es, c, ks, g.fr (ho _ (.inr (.inl rfl)))⟩, ⟨Nat.lt_of_lt_of_le h.lt.1 hn, Nat.lt_of_lt_of_le h.lt.2.1 hn, Nat.lt_of_lt_of_le h.lt.2.2 hn⟩, h.ne⟩
theorem TabOk.flt {S : TS} {tab rm k : Nat} {L : List RowM} {jd : List D} (h : TabOk S tab rm k L jd) : ∀ id, tabF tab rm k id → id < S.n := by
  rintro id (rfl | rfl | rfl)
  · exact h.lt.1
  · exact h.lt.2.1
  · exact h.lt.2.2
theorem TabOk.push {S : TS} {tab rm k : Nat} {L : List RowM} {jd : List D} (h : TabOk S tab rm k L jd) (o : TObj) : TabOk (S.push o) tab rm k L jd :=
  h.fr (Nat.le_succ _) fun id hi => psh_old0 rfl (h.flt id hi)
theorem TabOk.frm {S S' : TS} {tab rm k : Nat} {L : List RowM} {jd : List D} {F : Nat → Prop} (h : TabOk S tab rm k L jd) (f : Frm S S' F) (hF : ∀ id, tabF tab rm k id → ¬ F id) : TabOk S' tab rm k L jd :=
  h.fr f.n fun id hi => f.o id (h.flt id hi) (hF id hi)
theorem c_tab_Get {S : TS} {tab rm k : Nat} {L : List RowM} {jd : List D} {p : Bs} {K : TV → TS → Prop} (h : TabOk S tab rm k L jd) (hK : K (.tup [rowO (rowAt L p), .lit (.bool (hasP L p))]) S) :
    TCall env 143 [.ptr tab 0, .lit (.string (st p))] S K := by
  obtain ⟨es, clock, ks, g⟩ := h.om
  unfold hasP at hK
  cases hr : rowAt L p with
  | none => rw [hr] at hK; exact c_rows_Get_no h.ot g.om g.mo h.lt.1 h.lt.2.1 (by rw [g.get, hr]; rfl) hK
  | some r => rw [hr] at hK; exact c_rows_Get_yes (t := ⟨.none, 1, .none, 1⟩) h.ot g.om g.mo h.lt.1 h.lt.2.1 (by rw [g.get, hr]; rfl) hK (ren_rowN _ _ _)
theorem Frm.tab {S S' : TS} {tab rm k : Nat} {F : Nat → Prop} (h : Frm S S' F) (hF : ∀ id, F id → tabF tab rm k id) : Frm S S' (tabF tab rm k) := ⟨h.n, fun id hi hf => h.o id hi fun hh => hf (hF id hh)⟩
theorem jE_cells (p : Bs) (r : Option RowM) : (cellsD [jE p r]).length = 6 := by cases r <;> rfl
theorem TabOk.noted {S S' : TS} {tab rm k k' : Nat} {L : List RowM} {jd : List D} {e : D} (h : TabOk S tab rm k L jd) (he : (cellsD [e]).length = 6) (hn : S.n ≤ S'.n) (ht : S'.objs tab = .cells 152 [.mp rm, .vs k' 0 6 (jd.length + 1)])
    (hk : S'.objs k' = .cells 167 (cellsD jd ++ cellsD [e])) (hm : S'.objs rm = S.objs rm) (h1 : S.n ≤ k') (h2 : k' < S'.n) : TabOk S' tab rm k' L (jd ++ [e]) := by
  obtain ⟨g1, g2, g3⟩ := h.lt
  refine ⟨by rw [ht, List.length_append]; rfl, by rw [hk, cellsD_app], ?_, let ⟨es, c, ks, g⟩ := h.om; ⟨es, c, ks, g.fr hm⟩, ⟨by omega, by omega, h2⟩, ⟨h.ne.1, by omega, by omega⟩⟩
  rw [cellsD_app, List.length_append, he, h.jl, List.length_append, List.length_singleton]; omega
set_option maxRecDepth 8000 in
set_option maxHeartbeats 1000000 in
theorem c_tab_note {S : TS} {tab rm k : Nat} {L : List RowM} {jd : List D} {p : Bs} {K : TV → TS → Prop} (h : TabOk S tab rm k L jd)
    (hK : ∀ S' k', TabOk S' tab rm k' L (jd ++ [jE p (rowAt L p)]) → Frm S S' (tabF tab rm k) → S'.objs rm = S.objs rm → S.n ≤ k' → K (.lit (.bool (hasP L p))) S') (hj : jd.length ≤ 1000000 := by omega) :
    TCall env 156 [.ptr tab 0, .lit (.string (st p))] S K := by
  refine TCall.w 27 [.tmp 4] Tryz.func156 rfl rfl rfl rfl (by kernel_rfl) rfl ?_
  have hot := h.ot
  have hoj := h.oj
  have hjl := h.jl
  obtain ⟨htl, hml, hkl⟩ := h.lt
  obtain ⟨hn1, hn2, hn3⟩ := h.ne
  simp -implicitDefEqProofs (disch := omega) only [seval, go_sem]
  refine c_tab_Get h ?_
  unfold hasP at *
  cases hr : rowAt L p with
  | none =>
    rw [hr] at hK
    have hro : rowO none = .agg [.lit (.string (st [])), .lit (.string (st [])), .sl .full 0 [], .sl .full 0 []] := rfl
    simp -implicitDefEqProofs (disch := omega) only [seval, go_sem, hro, psh_old0 hot htl, psh_old0 hoj hkl]
    refine drW_at [(0,0),(1,0),(2,0),(3,0),(4,0),(5,0),(6,0),(7,0),(8,0),(9,3),(10,4),(11,0),(12,0),(13,2)] followsN (by kernel_rfl) ?_
    simp -implicitDefEqProofs (disch := omega) only [seval, go_sem, hro, psh_old0 hot htl, psh_old0 hoj hkl, hot]
    refine ⟨rfl, hK _ (S.n + 1) (h.noted (jE_cells _ _) (Nat.le_succ_of_le (Nat.le_succ _)) (psh_old0 (psh_old0 (TS.set_same' _ _ _) htl) (Nat.lt_succ_of_lt htl)) (push_self _ _) ((psh_old0 (psh_old0 (o := S.objs rm) ?_ hml) (Nat.lt_succ_of_lt hml))) (Nat.le_succ _) (Nat.lt_succ_self _)) ?_ ?_ (Nat.le_succ _)⟩
    · exact (st_old _ (Ne.symm hn1)).trans (st_old _ hn3)
    · exact ((((Frm.refl S _).set (.inl (.inr (.inr rfl))) _).set (.inl (.inl rfl)) _).push _).push _
    · exact psh_old0 (psh_old0 ((st_old _ (Ne.symm hn1)).trans (st_old _ hn3)) hml) (Nat.lt_succ_of_lt hml)
  | some r =>
    rw [hr] at hK
    have hro : rowO (some r) = .agg [.lit (.string (st r.path)), .lit (.string (st r.name)), .sl .none 1 (dB r.arc), .sl .none 1 (dT r.refs)] := rfl
    simp -implicitDefEqProofs (disch := omega) only [seval, go_sem, hro, psh_old0 hot htl, psh_old0 hoj hkl]
    refine drW_at [(0,0),(1,0),(2,0),(3,0),(4,0),(5,0),(6,0),(7,0),(8,0),(9,3),(10,4),(11,0),(12,0),(13,2)] followsN (by kernel_rfl) ?_
    simp -implicitDefEqProofs (disch := omega) only [seval, go_sem, hro, psh_old0 hot htl, psh_old0 hoj hkl, hot]
    refine ⟨rfl, hK _ (S.n + 1) (h.noted (jE_cells _ _) (Nat.le_succ_of_le (Nat.le_succ _)) (psh_old0 (psh_old0 (TS.set_same' _ _ _) htl) (Nat.lt_succ_of_lt htl)) (push_self _ _) ((psh_old0 (psh_old0 (o := S.objs rm) ?_ hml) (Nat.lt_succ_of_lt hml))) (Nat.le_succ _) (Nat.lt_succ_self _)) ?_ ?_ (Nat.le_succ _)⟩
    · exact (st_old _ (Ne.symm hn1)).trans (st_old _ hn3)
    · exact ((((Frm.refl S _).set (.inl (.inr (.inr rfl))) _).set (.inl (.inl rfl)) _).push _).push _
    · exact psh_old0 (psh_old0 ((st_old _ (Ne.symm hn1)).trans (st_old _ hn3)) hml) (Nat.lt_succ_of_lt hml)
end Go.Proofs.YtlljknmojafkoaaGreatDoor
namespace Go.Proofs.YtlljknmojafkoaaGreatDoor
open Go.RowKit TL
theorem c_Clone_TP {S : TS} {g : Tag} {s : Nat} {l : List Bs} {K : TV → TS → Prop} (hK : K (.sl .none 1 (dT l)) S) (hs : s = 1 ∨ l = []) (hl : l.length ≤ 1000000 := by omega) : TCall env 92 [.sl g s (dT l)] S K :=
  .toPure (c_Clone_T ⟨.slN _ _ _, Keep.push _ _⟩ hs hl) hK
theorem c_bytes_CloneP {S : TS} {g : Tag} {p : Bs} {K : TV → TS → Prop} (hK : K (.sl .none 1 (dB p)) S) (hp : p.length ≤ 1000000 := by omega) : TCall env 155 [.sl g 1 (dB p)] S K :=
  .toPure (c_bytes_Clone ⟨.slN _ _ _, Keep.push _ _⟩ hp) hK
/-- Bounds of a row. -/
structure RowB (r : RowM) : Prop where
  nm : r.name.length ≤ 100000
  ar : r.arc.length ≤ 1000000
  rl : r.refs.length ≤ 100000
  rs : ∀ s ∈ r.refs, s.length ≤ 100000
  pt : r.path.length ≤ 100000
set_option maxRecDepth 8000 in
set_option maxHeartbeats 1000000 in
theorem c_Fits {S : TS} {r : RowM} {K : TV → TS → Prop} (hK : K (.lit (.bool (fitsR r))) S) (hb : RowB r) : TCall env 99 [rowN r] S K := by
  refine TCall.toPure (r := .lit (.bool (fitsR r))) ?_ hK
  rw [rowN_mk]
  refine TCall.w 23 [.tmp 2] Tryz.func99 rfl rfl rfl rfl (by kernel_rfl) rfl ?_
  simp -implicitDefEqProofs (disch := omega) only [seval, go_sem]
  refine c_name_Make ?_ hb.rs hb.nm hb.ar hb.rl
  unfold mkV fitsR
  by_cases h1 : rightS r.name = true
  · rw [if_neg (by rw [h1]; simp)]
    by_cases h2 : refsOk r.refs = true
    · rw [if_neg (by rw [h2]; simp), h1, h2]
      simp -implicitDefEqProofs (disch := omega) only [seval, go_sem]
      exact ⟨.lit _, Keep.push _ _⟩
    · have h2' : refsOk r.refs = false := by simpa using h2
      rw [if_pos h2', h2']
      simp -implicitDefEqProofs (disch := omega) only [seval, go_sem]
      refine ⟨?_, Keep.push _ _⟩
      rw [Bool.and_false, Bool.false_and]; exact .lit _
  · have h1' : rightS r.name = false := by simpa using h1
    rw [if_pos h1', h1']
    simp -implicitDefEqProofs (disch := omega) only [seval, go_sem]
    refine ⟨?_, Keep.push _ _⟩
    rw [Bool.false_and, Bool.false_and]; exact .lit _
set_option maxRecDepth 8000 in
set_option maxHeartbeats 1000000 in
theorem c_copied {S : TS} {r : RowM} {K : TV → TS → Prop} (hK : K (rowN r) S) (hb : RowB r) : TCall env 110 [rowN r] S K := by
  refine TCall.toPure (r := rowN r) ?_ hK
  rw [rowN_mk]
  have hb1 := hb.ar
  have hb2 := hb.rl
  refine TCall.w 12 [.cell 2 40] Tryz.func110 rfl rfl rfl rfl (by kernel_rfl) rfl ?_
  simp -implicitDefEqProofs (disch := omega) only [seval, go_sem]
  refine drW_at [(0,0),(1,0),(3,0),(4,0),(2,1),(6,0),(5,1),(7,2),(8,0),(9,2)] followsN (by kernel_rfl) ?_
  simp -implicitDefEqProofs (disch := omega) only [seval, go_sem]
  refine c_bytes_CloneP ?_
  simp -implicitDefEqProofs (disch := omega) only [seval, go_sem]
  refine c_Clone_TP ?_ (.inl rfl)
  simp -implicitDefEqProofs (disch := omega) only [seval, go_sem]
  refine ⟨_, resCell (id := S.n + 1) rfl ti40 (push_self (S.push _) _) rfl rfl, ?_⟩
  exact ⟨ren_rowN _ _ r, (Keep.push _ _).push' _⟩
end Go.Proofs.YtlljknmojafkoaaGreatDoor
namespace Go.Proofs.YtlljknmojafkoaaGreatDoor
open Go.RowKit TL
/-- A set of texts. -/
def SetOk (S : TS) (m : Nat) (f : Bs → Bool) : Prop := ∃ es clock ks, S.objs m = .map es clock ∧ MapOk kS es clock ks ∧ ∀ p, getM kS es p = if f p = true then some (.lit (.bool true)) else none
theorem SetOk.fr {S S' : TS} {m : Nat} {f : Bs → Bool} (h : SetOk S m f) (ho : S'.objs m = S.objs m) : SetOk S' m f := let ⟨es, c, ks, a, b, d⟩ := h; ⟨es, c, ks, ho.trans a, b, d⟩
theorem SetOk.mem {es : Ents} {clock : Nat} {ks : List Bs} {f : Bs → Bool} (mo : MapOk kS es clock ks) (hg : ∀ p, getM kS es p = if f p = true then some (.lit (.bool true)) else none) (p : Bs) : p ∈ ks ↔ f p = true := by
  rw [← mo.mem, hg]
  cases f p <;> simp
/-- Where a store's parts lie. -/
structure StI where
  tab : Nat
  rm : Nat
  k : Nat
  bk : Nat
  rt : Nat
  sm : Nat
  bf : Bs → Option Nat
structure BackOk (S : TS) (bk : Nat) (bf : Bs → Option Nat) (B : Bs → Bs → Bool) : Prop where
  om : ∃ es clock ks, S.objs bk = .map es clock ∧ MapOk kS es clock ks ∧ ∀ q, getM kS es q = (bf q).map TV.mp
  yes : ∀ q id, bf q = some id → SetOk S id (B q) ∧ id < S.n
  no : ∀ q, bf q = none → ∀ p, B q p = false
  inj : ∀ q q' id, bf q = some id → bf q' = some id → q = q'
structure StG (S : TS) (s : Nat) (I : StI) (L : List RowM) (jd : List D) (B : Bs → Bs → Bool) (roots : List Bs) (ver : BitVec 64) (tc : List (Bs × BitVec 64)) : Prop where
  os : S.objs s = .cells 94 [.ptr I.tab 0, .mp I.bk, .mp I.rt, .mp I.sm, .lit (w64 ver)]
  tb : TabOk S I.tab I.rm I.k L jd
  bk : BackOk S I.bk I.bf B
  rt : SetOk S I.rt fun p => decide (p ∈ roots)
  sm : ∃ es clock ks, S.objs I.sm = .map es clock ∧ MapOk kS es clock ks ∧ ∀ p, (getM kS es p).getD (.lit (w64 0#64)) = .lit (w64 (stampT tc p))
  lt : s < S.n ∧ I.bk < S.n ∧ I.rt < S.n ∧ I.sm < S.n
  nd : [s, I.tab, I.rm, I.k, I.bk, I.rt, I.sm].Nodup
  nb : ∀ q id, I.bf q = some id → id ∉ [s, I.tab, I.rm, I.k, I.bk, I.rt, I.sm]
def stF (s : Nat) (I : StI) (id : Nat) : Prop := id ∈ [s, I.tab, I.rm, I.k, I.bk, I.rt, I.sm] ∨ ∃ q, I.bf q = some id
theorem StG.flt {S : TS} {s : Nat} {I : StI} {L : List RowM} {jd : List D} {B : Bs → Bs → Bool} {roots : List Bs} {ver : BitVec 64} {tc : List (Bs × BitVec 64)} (h : StG S s I L jd B roots ver tc) : ∀ id, stF s I id → id < S.n := by
  rintro id (hi | ⟨q, hq⟩)
  · simp only [List.mem_cons, List.not_mem_nil, or_false] at hi
    rcases hi with rfl | rfl | rfl | rfl | rfl | rfl | rfl
    · exact h.lt.1
    · exact h.tb.lt.1
    · exact h.tb.lt.2.1
    · exact h.tb.lt.2.2
    · exact h.lt.2.1
    · exact h.lt.2.2.1
    · exact h.lt.2.2.2
  · exact (h.bk.yes q id hq).2
theorem BackOk.fr {S S' : TS} {bk : Nat} {bf : Bs → Option Nat} {B : Bs → Bs → Bool} (h : BackOk S bk bf B) (hn : S.n ≤ S'.n) (h1 : S'.objs bk = S.objs bk) (h2 : ∀ q id, bf q = some id → S'.objs id = S.objs id) : BackOk S' bk bf B :=
  ⟨let ⟨es, c, ks, a, b, d⟩ := h.om; ⟨es, c, ks, h1.trans a, b, d⟩, fun q id hq => ⟨(h.yes q id hq).1.fr (h2 q id hq), Nat.lt_of_lt_of_le (h.yes q id hq).2 hn⟩, h.no, h.inj⟩
theorem StG.fr {S S' : TS} {s : Nat} {I : StI} {L : List RowM} {jd : List D} {B : Bs → Bs → Bool} {roots : List Bs} {ver : BitVec 64} {tc : List (Bs × BitVec 64)} (h : StG S s I L jd B roots ver tc) (hn : S.n ≤ S'.n) (ho : ∀ id, stF s I id → S'.objs id = S.objs id) : StG S' s I L jd B roots ver tc := by
  have hi : ∀ id, id ∈ [s, I.tab, I.rm, I.k, I.bk, I.rt, I.sm] → S'.objs id = S.objs id := fun id hi => ho id (.inl hi)
  refine ⟨(hi _ (by simp)).trans h.os, h.tb.fr hn fun id hid => hi id (by rcases hid with rfl | rfl | rfl <;> simp), h.bk.fr hn (hi _ (by simp)) fun q id hq => ho id (.inr ⟨q, hq⟩), h.rt.fr (hi _ (by simp)), ?_, ?_, h.nd, h.nb⟩
  · obtain ⟨es, c, ks, a, b, d⟩ := h.sm
    exact ⟨es, c, ks, (hi _ (by simp)).trans a, b, d⟩
  · exact ⟨Nat.lt_of_lt_of_le h.lt.1 hn, Nat.lt_of_lt_of_le h.lt.2.1 hn, Nat.lt_of_lt_of_le h.lt.2.2.1 hn, Nat.lt_of_lt_of_le h.lt.2.2.2 hn⟩
theorem StG.push {S : TS} {s : Nat} {I : StI} {L : List RowM} {jd : List D} {B : Bs → Bs → Bool} {roots : List Bs} {ver : BitVec 64} {tc : List (Bs × BitVec 64)} (h : StG S s I L jd B roots ver tc) (o : TObj) : StG (S.push o) s I L jd B roots ver tc :=
  h.fr (Nat.le_succ _) fun id hi => psh_old0 rfl (h.flt id hi)
theorem StG.frm {S S' : TS} {s : Nat} {I : StI} {L : List RowM} {jd : List D} {B : Bs → Bs → Bool} {roots : List Bs} {ver : BitVec 64} {tc : List (Bs × BitVec 64)} {F : Nat → Prop} (h : StG S s I L jd B roots ver tc) (f : Frm S S' F) (hF : ∀ id, stF s I id → ¬ F id) : StG S' s I L jd B roots ver tc :=
  h.fr f.n fun id hi => f.o id (h.flt id hi) (hF id hi)
section
variable {S : TS} {s : Nat} {I : StI} {L : List RowM} {jd : List D} {B : Bs → Bs → Bool} {roots : List Bs} {ver : BitVec 64} {tc : List (Bs × BitVec 64)}
set_option maxRecDepth 8000 in
set_option maxHeartbeats 1000000 in
theorem c_row {p : Bs} {K : TV → TS → Prop} (h : StG S s I L jd B roots ver tc) (hK : K (.tup [rowO (rowAt L p), .lit (.bool (hasP L p))]) S) : TCall env 89 [.ptr s 0, .lit (.string (st p))] S K := by
  obtain ⟨es, clock, ks, g⟩ := h.tb.om
  unfold hasP at hK
  cases hr : rowAt L p with
  | none => rw [hr] at hK; exact c_db_row_no h.os h.lt.1 h.tb.ot g.om g.mo h.tb.lt.1 h.tb.lt.2.1 (by rw [g.get, hr]; rfl) hK
  | some r => rw [hr] at hK; exact c_db_row_yes (t := ⟨.none, 1, .none, 1⟩) h.os h.lt.1 h.tb.ot g.om g.mo h.tb.lt.1 h.tb.lt.2.1 (by rw [g.get, hr]; rfl) hK (fun n _ => ren_rowN _ _ _)
set_option maxRecDepth 8000 in
set_option maxHeartbeats 1000000 in
theorem c_Has {p : Bs} {K : TV → TS → Prop} (h : StG S s I L jd B roots ver tc) (hK : K (.lit (.bool (hasP L p))) S) : TCall env 28 [.ptr s 0, .lit (.string (st p))] S K := by
  refine TCall.toPure (r := .lit (.bool (hasP L p))) ?_ hK
  refine TCall.w 14 [.tmp 4] Tryz.func28 rfl rfl rfl rfl (by kernel_rfl) rfl ?_
  simp -implicitDefEqProofs (disch := omega) only [seval, go_sem]
  refine c_row h ?_
  cases hr : rowAt L p with
  | none =>
    have hro : rowO none = noRow := rfl
    simp -implicitDefEqProofs (disch := omega) only [seval, go_sem, hro, noRow_mk]
    exact ⟨.lit _, Keep.push _ _⟩
  | some r =>
    have hro : rowO (some r) = rowN r := rfl
    simp -implicitDefEqProofs (disch := omega) only [seval, go_sem, hro, rowN_mk]
    exact ⟨.lit _, Keep.push _ _⟩
set_option maxRecDepth 8000 in
set_option maxHeartbeats 1000000 in
theorem c_Version {K : TV → TS → Prop} (h : StG S s I L jd B roots ver tc) (hK : K (.lit (w64 ver)) S) : TCall env 18 [.ptr s 0] S K := by
  have hs := h.os
  refine TCall.w 9 [.tmp 2] Tryz.func18 rfl rfl rfl rfl (by kernel_rfl) rfl ?_
  simp -implicitDefEqProofs (disch := omega) only [seval, go_sem, hs]
  exact hK
end
end Go.Proofs.YtlljknmojafkoaaGreatDoor
namespace Go.Proofs.YtlljknmojafkoaaGreatDoor
open Go.RowKit TL
theorem MapRow.add {S : TS} {rm : Nat} {L : List RowM} {es : Ents} {clock : Nat} {ks : List Bs} (g : MapRow S rm L es clock ks) {r : RowM} (hp : rowAt L r.path = none) {S' : TS} (hm : S'.objs rm = .map (putE (kS.v r.path) (rowN r) es clock) (clkE (kS.v r.path) es clock)) :
    MapRow S' rm (L ++ [r]) (putE (kS.v r.path) (rowN r) es clock) (clkE (kS.v r.path) es clock) (ks ++ [r.path]) := by
  have hni : r.path ∉ ks := fun hi => by
    have := (g.mo.mem _).2 hi
    rw [g.get, hp] at this; cases this
  refine ⟨hm, g.mo.put_new hni _, fun p => ?_, ?_⟩
  · rw [g.mo.get_put, g.get, rowAt_app, rowAt_one]
    by_cases h : p = r.path
    · subst h; rw [if_pos rfl, if_pos rfl, hp]; rfl
    · rw [if_neg h, if_neg h]; cases rowAt L p <;> rfl
  · unfold pathsOf; rw [List.map_append]; exact g.keys.append_right _
def dropP (L : List RowM) (p : Bs) : List RowM := L.filter fun r => !decide (r.path = p)
theorem pathsOf_drop (L : List RowM) (p : Bs) : pathsOf (dropP L p) = (pathsOf L).filter fun q => !decide (q = p) := by
  unfold pathsOf dropP
  rw [List.filter_map]
  rfl
theorem erase_filter {ks : List Bs} (h : ks.Nodup) (p : Bs) : @List.erase Bs instBEqOfDecidableEq ks p = ks.filter fun q => !decide (q = p) := by
  rw [@List.Nodup.erase_eq_filter Bs instBEqOfDecidableEq inferInstance ks h p]
  apply List.filter_congr
  intro x _
  by_cases hx : x = p <;> simp [hx]
theorem MapRow.del {S : TS} {rm : Nat} {L : List RowM} {es : Ents} {clock : Nat} {ks : List Bs} (g : MapRow S rm L es clock ks) (p : Bs) {S' : TS} (hm : S'.objs rm = .map (delE (kS.v p) es) clock) :
    MapRow S' rm (dropP L p) (delE (kS.v p) es) clock (ks.filter fun q => !decide (q = p)) := by
  refine ⟨hm, by have := g.mo.del p; rw [erase_filter g.mo.nd] at this; exact this, fun q => ?_, ?_⟩
  · rw [g.mo.get_del, g.get, dropP, rowAt_filter]
    split <;> rfl
  · rw [pathsOf_drop]
    exact g.keys.filter _
set_option maxRecDepth 8000 in
set_option maxHeartbeats 1000000 in
theorem c_tab_Set {S : TS} {tab rm k : Nat} {L : List RowM} {jd : List D} {r : RowM} {K : TV → TS → Prop} (h : TabOk S tab rm k L jd) (hp : rowAt L r.path = none)
    (hK : ∀ S' k', TabOk S' tab rm k' (L ++ [r]) (jd ++ [jE r.path none]) → Frm S S' (tabF tab rm k) → S.n ≤ k' → K (.tup []) S') (hj : jd.length ≤ 1000000 := by omega) :
    TCall env 111 [.ptr tab 0, .lit (.string (st r.path)), rowN r] S K := by
  rw [rowN_mk]
  refine TCall.w 17 [] Tryz.func111 rfl rfl rfl rfl (by kernel_rfl) rfl ?_
  simp -implicitDefEqProofs (disch := omega) only [seval, go_sem]
  refine c_tab_note (h.push _) fun S1 k1 h1 f1 m1 hk1 => ?_
  rw [hp] at h1
  obtain ⟨es, clock, ks, g⟩ := h1.om
  have hkeys : keysOk .string es = true := g.mo.ok
  have hot := h1.ot
  have hom := g.om
  have hrow := f1.new h.flt
  have hsn : S.n + 1 ≤ S1.n := f1.n
  obtain ⟨htl, hml, hkl⟩ := h1.lt
  obtain ⟨hn1, hn2, hn3⟩ := h1.ne
  simp -implicitDefEqProofs (disch := omega) only [seval, go_sem]
  refine drW_at [(0,0),(1,0),(2,0),(3,0),(4,0),(5,0),(6,2)] followsN (by kernel_rfl) ?_
  simp -implicitDefEqProofs (disch := omega) only [seval, go_sem, hot, hom, hrow, hkeys, keyB_str]
  have hk1' : S.n + 1 ≤ k1 := hk1
  refine hK _ k1 ⟨(st_old _ hn1).trans hot, (st_old _ (Ne.symm hn3)).trans h1.oj, h1.jl, ⟨_, _, _, g.add hp (TS.set_same' _ _ _)⟩, ⟨htl, hml, hkl⟩, h1.ne⟩ ?_ (by omega)
  exact (f1.of_push).set (.inl (.inr (.inl rfl))) _
set_option maxRecDepth 8000 in
set_option maxHeartbeats 1000000 in
theorem c_tab_Drop {S : TS} {tab rm k : Nat} {L : List RowM} {jd : List D} {p : Bs} {r : RowM} {K : TV → TS → Prop} (h : TabOk S tab rm k L jd) (hp : rowAt L p = some r)
    (hK : ∀ S' k', TabOk S' tab rm k' (dropP L p) (jd ++ [jE p (some r)]) → Frm S S' (tabF tab rm k) → S.n ≤ k' → K (.lit (.bool true)) S') (hj : jd.length ≤ 1000000 := by omega) :
    TCall env 115 [.ptr tab 0, .lit (.string (st p))] S K := by
  refine TCall.w 23 [.tmp 4] Tryz.func115 rfl rfl rfl rfl (by kernel_rfl) rfl ?_
  simp -implicitDefEqProofs (disch := omega) only [seval, go_sem]
  refine c_tab_Get h ?_
  have hh : hasP L p = true := by unfold hasP; rw [hp]; rfl
  have hro : rowO (some r) = .agg [.lit (.string (st r.path)), .lit (.string (st r.name)), .sl .none 1 (dB r.arc), .sl .none 1 (dT r.refs)] := rfl
  rw [hp, hh]
  simp -implicitDefEqProofs (disch := omega) only [seval, go_sem, hro]
  refine c_tab_note (h.push _) fun S1 k1 h1 f1 m1 hk1 => ?_
  rw [hp] at h1
  obtain ⟨es, clock, ks, g⟩ := h1.om
  have hkeys : keysOk .string es = true := g.mo.ok
  have hot := h1.ot
  have hom := g.om
  have hsn : S.n + 1 ≤ S1.n := f1.n
  obtain ⟨htl, hml, hkl⟩ := h1.lt
  obtain ⟨hn1, hn2, hn3⟩ := h1.ne
  simp -implicitDefEqProofs (disch := omega) only [seval, go_sem, hot, hom, hkeys, keyB_str]
  have hk1' : S.n + 1 ≤ k1 := hk1
  refine hK _ k1 ⟨(st_old _ hn1).trans hot, (st_old _ (Ne.symm hn3)).trans h1.oj, h1.jl, ⟨_, _, _, g.del p (TS.set_same' _ _ _)⟩, ⟨htl, hml, hkl⟩, h1.ne⟩ ?_ (by omega)
  exact (f1.of_push).set (.inl (.inr (.inl rfl))) _
set_option maxRecDepth 8000 in
set_option maxHeartbeats 1000000 in
theorem c_tab_Done {S : TS} {tab rm k : Nat} {L : List RowM} {jd : List D} {K : TV → TS → Prop} (h : TabOk S tab rm k L jd)
    (hK : ∀ S' k', TabOk S' tab rm k' L [] → Frm S S' (tabF tab rm k) → S.n ≤ k' → K (.tup []) S') :
    TCall env 56 [.ptr tab 0] S K := by
  refine TCall.gh ?_
  refine c_rows_Done h.ot ?_
  obtain ⟨htl, hml, hkl⟩ := h.lt
  obtain ⟨hn1, hn2, hn3⟩ := h.ne
  refine ⟨_, Gh.bufCell 167 6 1 (TS.set_same' _ _ _) rfl, ?_⟩
  refine hK _ S.n ⟨TS.set_same' _ _ _, ?_, rfl, ?_, ⟨Nat.lt_succ_of_lt htl, Nat.lt_succ_of_lt hml, Nat.lt_succ_self _⟩, ⟨hn1, by omega, by omega⟩⟩ ?_ (Nat.le_refl _)
  · exact (st_old _ (by omega)).trans (push_self (S.set _ _) _)
  · obtain ⟨es, clock, ks, g⟩ := h.om
    exact ⟨es, clock, ks, g.fr ((st_old _ (Ne.symm hn1)).trans (psh_old0 (S := S.set _ _) (st_old _ (Ne.symm hn1)) hml))⟩
  · exact (((Frm.refl S _).set (.inl (.inl rfl)) _).push _).set (.inl (.inl rfl)) _
set_option maxRecDepth 8000 in
set_option maxHeartbeats 1000000 in
theorem c_tab_Len {S : TS} {tab rm k : Nat} {L : List RowM} {jd : List D} {K : TV → TS → Prop} (h : TabOk S tab rm k L jd) (hK : K (.lit (.int .i64 (L.length : Int))) S) :
    TCall env 154 [.ptr tab 0] S K := by
  obtain ⟨es, clock, ks, g⟩ := h.om
  refine c_rows_Len h.ot g.om ?_
  have : es.length = L.length := by rw [g.mo.len, g.keys.length_eq]; simp [pathsOf]
  rw [this]; exact hK
set_option maxRecDepth 8000 in
set_option maxHeartbeats 1000000 in
theorem c_tab_Mark {S : TS} {tab rm k n : Nat} {K : TV → TS → Prop} (ho : S.objs tab = .cells 152 [.mp rm, .vs k 0 6 n]) (hK : K (.lit (.int .i64 (n : Int))) S) :
    TCall env 112 [.ptr tab 0] S K := by
  refine TCall.w 10 [.tmp 2] Tryz.func112 rfl rfl rfl rfl (by kernel_rfl) rfl ?_
  simp -implicitDefEqProofs (disch := omega) only [seval, go_sem, ho]
  exact hK
theorem keys_rise {L : List RowM} {ks : List Bs} (hn : ks.Nodup) (hp : ks.Perm (pathsOf L)) : sortB ks = riseL (pathsOf L) := by rw [sortB_rise hn]; exact riseL_perm fun x => hp.mem_iff
set_option maxRecDepth 8000 in
set_option maxHeartbeats 1000000 in
theorem c_tab_KeysV {S : TS} {tab rm k : Nat} {L : List RowM} {jd : List D} {K : TV → TS → Prop} (h : TabOk S tab rm k L jd) (hl : L.length ≤ 1000000) (hb : ∀ p ∈ pathsOf L, p.length ≤ 1000000)
    (hK : ∀ S' id, S'.objs id = .cells 9 (cellsD (dT (riseL (pathsOf L)))) → S.n ≤ id → id < S'.n → Keep S S' → K (.vs id 0 1 (riseL (pathsOf L)).length) S') :
    TCall env 58 [.ptr tab 0] S K := by
  obtain ⟨es, clock, ks, g⟩ := h.om
  have hot := h.ot
  have hk := keys_rise g.mo.nd g.keys
  have hlen : ks.length = L.length := by rw [g.keys.length_eq]; simp [pathsOf]
  refine TCall.w 11 [.tmp 2] Tryz.func58 rfl rfl rfl rfl (by kernel_rfl) rfl ?_
  simp -implicitDefEqProofs (disch := omega) only [seval, go_sem, hot]
  refine c_Keys_kRow ?_
  simp -implicitDefEqProofs (disch := omega) only [seval, go_sem]
  refine c_Sorted_kRow (push_self _ _) (psh_old0 g.om h.lt.2.1) g.mo (by omega) (fun k hk => hb k (g.keys.mem_iff.1 hk)) ?_
  simp -implicitDefEqProofs (disch := omega) only [seval, go_sem]
  have e : ks.length = (riseL (pathsOf L)).length := by rw [← hk, sortB_len]
  rw [e, hk]
  exact hK _ _ (push_self (S.push _) _) (Nat.le_succ _) (Nat.lt_succ_self _) ((Keep.push _ _).push' _)
theorem c_tab_Keys {S : TS} {tab rm k : Nat} {L : List RowM} {jd : List D} {K : TV → TS → Prop} (h : TabOk S tab rm k L jd) (hl : L.length ≤ 1000000) (hb : ∀ p ∈ pathsOf L, p.length ≤ 1000000)
    (hK : K (.sl .none 1 (dT (riseL (pathsOf L)))) S) : TCall env 58 [.ptr tab 0] S K := by
  have hrl : (riseL (pathsOf L)).length ≤ 1000000 := Nat.le_trans (riseL_len _) (by simpa [pathsOf] using hl)
  exact .toPure ((TCall.freeze (e := 9) (ag := false) (s := 1) (cs := cellsD (dT (riseL (pathsOf L)))) (ds := dT (riseL (pathsOf L))) (len := (riseL (pathsOf L)).length)
    (c_tab_KeysV h hl hb fun S' id h1 h2 h3 h4 => ⟨_, rfl, h2, h1, h4⟩) (by rw [cT_len]; omega) fun S' id ho => srcD_F (fun s : Bs => Value.string (st s)) (fun _ => rfl) ho rfl (by unfold LIM; omega)).mono fun t S' ⟨h1, h2⟩ => by rw [h1, h2]; exact ⟨.slN _ _ _, Keep.push _ _⟩) hK
end Go.Proofs.YtlljknmojafkoaaGreatDoor
namespace Go.Proofs.YtlljknmojafkoaaGreatDoor
open Go.RowKit TL
theorem TCall.frozenT {f : FuncId} {args : List TV} {S : TS} {l : List Bs} {K : TV → TS → Prop} (h : TCall env f args S fun t S' => ∃ id, t = .vs id 0 1 l.length ∧ S.n ≤ id ∧ S'.objs id = .cells 9 (cellsD (dT l)) ∧ Keep S S') (hl : l.length ≤ 1000000)
    (hK : K (.sl .none 1 (dT l)) S) : TCall env f args S K :=
  .toPure ((TCall.freeze (e := 9) (ag := false) (s := 1) (cs := cellsD (dT l)) (ds := dT l) (len := l.length) h (by rw [cT_len]; omega)
    fun S' id ho => srcD_F (fun s : Bs => Value.string (st s)) (fun _ => rfl) ho rfl (by unfold LIM; omega)).mono fun t S' ⟨h1, h2⟩ => by rw [h1, h2]; exact ⟨.slN _ _ _, Keep.push _ _⟩) hK
set_option maxRecDepth 8000 in
set_option maxHeartbeats 1000000 in
theorem c_sortedV {S : TS} {m : Nat} {f : Bs → Bool} {l : List Bs} {K : TV → TS → Prop} (h : SetOk S m f) (hm : m < S.n) (hr : Ris l) (hl : ∀ p, p ∈ l ↔ f p = true) (hn : l.length ≤ 1000000) (hb : ∀ p ∈ l, p.length ≤ 1000000)
    (hK : ∀ S' id, S'.objs id = .cells 9 (cellsD (dT l)) → S.n ≤ id → id < S'.n → Keep S S' → K (.vs id 0 1 l.length) S') : TCall env 93 [.mp m] S K := by
  obtain ⟨es, clock, ks, om, mo, hg⟩ := h
  have hmem := SetOk.mem mo hg
  have hk : sortB ks = l := by rw [sortB_rise mo.nd]; exact ris_ext (riseL_ris _) hr fun y => by rw [riseL_mem, hmem, hl]
  have hlen : ks.length = l.length := by rw [← hk, sortB_len]
  refine TCall.w 6 [.tmp 2] Tryz.func93 rfl rfl rfl rfl (by kernel_rfl) rfl ?_
  simp -implicitDefEqProofs (disch := omega) only [seval, go_sem]
  refine c_Keys_kSet ?_
  simp -implicitDefEqProofs (disch := omega) only [seval, go_sem]
  refine c_Sorted_kSet (push_self _ _) (psh_old0 om hm) mo (by omega) (fun k hk' => hb k ((hl k).2 ((hmem k).1 hk'))) ?_
  simp -implicitDefEqProofs (disch := omega) only [seval, go_sem]
  rw [hlen, hk]
  exact hK _ _ (push_self (S.push _) _) (Nat.le_succ _) (Nat.lt_succ_self _) ((Keep.push _ _).push' _)
theorem c_sorted {S : TS} {m : Nat} {f : Bs → Bool} {l : List Bs} {K : TV → TS → Prop} (h : SetOk S m f) (hm : m < S.n) (hr : Ris l) (hl : ∀ p, p ∈ l ↔ f p = true) (hn : l.length ≤ 1000000) (hb : ∀ p ∈ l, p.length ≤ 1000000)
    (hK : K (.sl .none 1 (dT l)) S) : TCall env 93 [.mp m] S K :=
  TCall.frozenT (c_sortedV h hm hr hl hn hb fun S' id h1 h2 h3 h4 => ⟨_, rfl, h2, h1, h4⟩) hn hK
section
variable {S : TS} {s : Nat} {I : StI} {L : List RowM} {jd : List D} {B : Bs → Bs → Bool} {roots : List Bs} {ver : BitVec 64} {tc : List (Bs × BitVec 64)}
set_option maxRecDepth 8000 in
set_option maxHeartbeats 1000000 in
theorem c_Paths {K : TV → TS → Prop} (h : StG S s I L jd B roots ver tc) (hl : L.length ≤ 1000000) (hb : ∀ p ∈ pathsOf L, p.length ≤ 1000000) (hK : K (.sl .none 1 (dT (riseL (pathsOf L)))) S) : TCall env 17 [.ptr s 0] S K := by
  have hs := h.os
  refine TCall.w 10 [.tmp 2] Tryz.func17 rfl rfl rfl rfl (by kernel_rfl) rfl ?_
  simp -implicitDefEqProofs (disch := omega) only [seval, go_sem, hs]
  refine c_tab_Keys h.tb hl hb ?_
  simp -implicitDefEqProofs (disch := omega) only [seval, go_sem]
  exact hK
set_option maxRecDepth 8000 in
set_option maxHeartbeats 1000000 in
theorem c_Roots {K : TV → TS → Prop} (h : StG S s I L jd B roots ver tc) (hr : Ris roots) (hn : roots.length ≤ 1000000) (hb : ∀ p ∈ roots, p.length ≤ 1000000) (hK : K (.sl .none 1 (dT roots)) S) : TCall env 39 [.ptr s 0] S K := by
  have hs := h.os
  refine TCall.w 10 [.tmp 2] Tryz.func39 rfl rfl rfl rfl (by kernel_rfl) rfl ?_
  simp -implicitDefEqProofs (disch := omega) only [seval, go_sem, hs]
  refine c_sorted h.rt h.lt.2.2.1 hr (fun p => by simp) hn hb ?_
  simp -implicitDefEqProofs (disch := omega) only [seval, go_sem]
  exact hK
end
set_option maxRecDepth 8000 in
set_option maxHeartbeats 1000000 in
theorem c_IndexFunc_T {S : TS} {g : Tag} {s : Nat} {l : List Bs} {gf : Nat} {cap : List TV} {P : Bs → Bool} {K : TV → TS → Prop} (hP : ∀ x ∈ l, ∀ K : TV → TS → Prop, K (.lit (.bool (P x))) S → TCall env gf (.lit (.string (st x)) :: cap) S K)
    (hK : ∀ r : Int, (0 ≤ r ↔ l.any P = true) → K (.lit (.int .i64 r)) S) (hs : s = 1 ∨ l = []) (hl : l.length ≤ 1000000 := by omega) :
    TCall env 148 [.sl g s (dT l), .fn (.func gf) [] cap] S K := by
  refine TCall.w 19 [.tmp 4] Tryz.func148 rfl rfl rfl rfl (by kernel_rfl) rfl ?_
  have hdl := dT_len l
  simp -implicitDefEqProofs (disch := omega) only [seval, go_sem, hdl]
  refine loW_inv (fun n T S' => ∃ i : Nat, n + i = l.length ∧ T 0 = .sl g s (dT l) ∧ T 1 = .fn (.func gf) [] cap ∧ T 7 = .lit (.int .i64 (l.length : Int)) ∧ T 8 = .lit (.int .i64 (i : Int)) ∧ (l.take i).any P = false ∧ S' = S) l.length ?_ ?_
  · exact ⟨0, rfl, rfl, rfl, rfl, rfl, rfl, rfl⟩
  rintro n T S1 ⟨i, hi, h0, h1, h7, h8, hno, rfl⟩
  simp -implicitDefEqProofs (disch := omega) only [seval, go_sem, h0, h1, h7, h8, hdl]
  refine cdK_d (fun hc => ?_) (fun hc => ?_)
  · have hlt : i < l.length := by omega
    have hs2 : s = 1 := hs.resolve_right fun e => by rw [e] at hlt; simp at hlt
    subst hs2
    have hx := dT_get hlt
    have htk := take_succ_D l (i := i) [] hlt
    have hmem : l.getD i [] ∈ l := getD_mem hlt
    generalize l.getD i [] = a at *
    simp -implicitDefEqProofs (disch := omega) only [seval, go_sem, h0, h1, h7, h8, hdl, hx]
    refine hP a hmem _ ?_
    cases hPx : P a
    · simp -implicitDefEqProofs (disch := omega) only [seval, go_sem, h0, h1, h7, h8, hdl, hx]
      refine ⟨n - 1, by omega, i + 1, by omega, h0, h1, h7, rfl, ?_, rfl⟩
      rw [htk, List.any_append, hno]; simp [hPx]
    · simp -implicitDefEqProofs (disch := omega) only [seval, go_sem, h0, h1, h7, h8, hdl, hx]
      exact hK _ ⟨fun _ => List.any_eq_true.2 ⟨_, hmem, hPx⟩, fun _ => by omega⟩
  · have e : i = l.length := by omega
    subst e
    rw [List.take_length] at hno
    simp -implicitDefEqProofs (disch := omega) only [seval, go_sem, h0, h1, h7, h8, hdl]
    exact hK _ ⟨fun h => by omega, fun h => by rw [hno] at h; cases h⟩
set_option maxRecDepth 8000 in
set_option maxHeartbeats 1000000 in
theorem c_ContainsFunc_T {S : TS} {g : Tag} {s : Nat} {l : List Bs} {gf : Nat} {cap : List TV} {P : Bs → Bool} {K : TV → TS → Prop} (hP : ∀ x ∈ l, ∀ K : TV → TS → Prop, K (.lit (.bool (P x))) S → TCall env gf (.lit (.string (st x)) :: cap) S K)
    (hK : K (.lit (.bool (l.any P))) S) (hs : s = 1 ∨ l = []) (hl : l.length ≤ 1000000 := by omega) :
    TCall env 96 [.sl g s (dT l), .fn (.func gf) [] cap] S K := by
  refine TCall.w 9 [.tmp 4] Tryz.func96 rfl rfl rfl rfl (by kernel_rfl) rfl ?_
  simp -implicitDefEqProofs (disch := omega) only [seval, go_sem]
  refine c_IndexFunc_T (P := P) hP (fun r hr => ?_) hs
  have hd : decide (0 ≤ r) = l.any P := by
    by_cases h : 0 ≤ r
    · rw [decide_eq_true h, hr.1 h]
    · rw [decide_eq_false h]; cases ha : l.any P
      · rfl
      · exact absurd (hr.2 ha) h
  simp -implicitDefEqProofs (disch := omega) only [seval, go_sem, hd]
  exact hK
theorem any_not (l : List Bs) (f : Bs → Bool) : (l.any fun p => !f p) = !l.all f := by
  induction l with
  | nil => rfl
  | cons x l ih => rw [List.any_cons, List.all_cons, ih]; cases f x <;> simp
section
variable {S : TS} {s : Nat} {I : StI} {L : List RowM} {jd : List D} {B : Bs → Bs → Bool} {roots : List Bs} {ver : BitVec 64} {tc : List (Bs × BitVec 64)}
set_option maxRecDepth 8000 in
set_option maxHeartbeats 1000000 in
theorem c_may1 {c : Nat} {p : Bs} {K : TV → TS → Prop} (h : StG S s I L jd B roots ver tc) (hc : S.objs c = .cells 23 [.ptr s 0]) (hK : K (.lit (.bool (!hasP L p))) S) : TCall env 153 [.lit (.string (st p)), .ptr c 0] S K := by
  refine TCall.w 8 [.tmp 3] Tryz.func153 rfl rfl rfl rfl (by kernel_rfl) rfl ?_
  simp -implicitDefEqProofs (disch := omega) only [seval, go_sem, hc]
  refine c_Has h ?_
  simp -implicitDefEqProofs (disch := omega) only [seval, go_sem]
  exact hK
def mayE (L : List RowM) (r : RowM) : Int := if fitsR r = false then 4 else if r.refs.all (hasP L) = false then 6 else if 64 ≤ L.length then 3 else 0
set_option maxRecDepth 8000 in
set_option maxHeartbeats 1000000 in
theorem c_may {r : RowM} {K : TV → TS → Prop} (h : StG S s I L jd B roots ver tc) (hb : RowB r) (hK : K (.lit (.int .i64 (mayE L r))) S) : TCall env 109 [.ptr s 0, rowN r] S K := by
  refine TCall.toPure (r := .lit (.int .i64 (mayE L r))) ?_ hK
  have hrl := hb.rl
  rw [rowN_mk]
  refine TCall.w 23 [.tmp 4] Tryz.func109 rfl rfl rfl rfl (by kernel_rfl) rfl ?_
  simp -implicitDefEqProofs (disch := omega) only [seval, go_sem]
  refine c_Fits (r := r) ?_ hb
  unfold mayE
  cases hf : fitsR r
  · simp -implicitDefEqProofs (disch := omega) only [seval, go_sem]
    exact ⟨.lit _, (Keep.push _ _).push' _⟩
  · simp -implicitDefEqProofs (disch := omega) only [seval, go_sem]
    refine c_ContainsFunc_T (P := fun p => !hasP L p) (fun x _ K hK => c_may1 ((h.push _).push _) (psh_old0 (push_self _ _) (Nat.lt_succ_self _)) hK) ?_ (.inl rfl)
    rw [any_not]
    cases ha : r.refs.all (hasP L)
    · simp -implicitDefEqProofs (disch := omega) only [seval, go_sem]
      exact ⟨.lit _, (Keep.push _ _).push' _⟩
    · have hs := psh_old0 (o2 := .cells 40 [.lit (.string (st r.path)), .lit (.string (st r.name)), .sl .none 1 (dB r.arc), .sl .none 1 (dT r.refs)]) (psh_old0 (o2 := .cells 23 [.ptr s 0]) h.os h.lt.1) (Nat.lt_succ_of_lt h.lt.1)
      simp -implicitDefEqProofs (disch := omega) only [seval, go_sem, hs, h.os]
      refine c_tab_Len ((h.tb.push _).push _) ?_
      by_cases hL : 64 ≤ L.length
      · rw [if_pos hL]
        simp -implicitDefEqProofs (disch := omega) only [seval, go_sem]
        refine ⟨.lit _, (Keep.push _ _).push' _⟩
      · rw [if_neg hL]
        simp -implicitDefEqProofs (disch := omega) only [seval, go_sem]
        refine ⟨.lit _, (Keep.push _ _).push' _⟩
end
end Go.Proofs.YtlljknmojafkoaaGreatDoor
namespace Go.Proofs.YtlljknmojafkoaaGreatDoor
open Go.RowKit TL
def rowD (r : RowM) : D := .agg [.lit (.string (st r.path)), .lit (.string (st r.name)), .sl 1 (dB r.arc), .sl 1 (dT r.refs)]
def dR (L : List RowM) : List D := L.map rowD
theorem dR_len (L : List RowM) : (dR L).length = L.length := List.length_map _
theorem dR_app (a b : List RowM) : dR (a ++ b) = dR a ++ dR b := List.map_append
instance : Inhabited RowM := ⟨⟨[], [], [], []⟩⟩
theorem dR_get {L : List RowM} {i : Nat} (h : i < L.length) : (dR L).getD i default = rowD (L.getD i default) := by
  rw [dR, List.getD_eq_getElem?_getD, List.getElem?_map, List.getD_eq_getElem?_getD, List.getElem?_eq_getElem h]; rfl
theorem rowD_mk (r : RowM) : rowD r = .agg [.lit (.string (st r.path)), .lit (.string (st r.name)), .sl 1 (dB r.arc), .sl 1 (dT r.refs)] := rfl
def refV (M : StM) : TV := .agg [.sl .none 1 (gD fW), .sl .none 1 (gD kW), .sl .none 4 (dR M.L), .sl .none 1 (dT M.roots), .lit (w64 M.ver), .sl .none 2 (dC M.tc)]
theorem refV_mk (M : StM) : refV M = .agg [.sl .none 1 (gD fW), .sl .none 1 (gD kW), .sl .none 4 (dR M.L), .sl .none 1 (dT M.roots), .lit (w64 M.ver), .sl .none 2 (dC M.tc)] := rfl
theorem ren_refV (n : Nat) (L : List Nat) (M : StM) : Ren n L (refV M) (refV M) :=
  .aggF (.cons (.sl0 _ _ _ (.inl rfl)) (.cons (.sl0 _ _ _ (.inl rfl)) (.cons (.sl0 _ _ _ (.inl rfl)) (.cons (.sl0 _ _ _ (.inl rfl)) (.cons (.lit _) (.cons (.sl0 _ _ _ (.inl rfl)) .nil))))))
set_option maxRecDepth 8000 in
set_option maxHeartbeats 1000000 in
theorem c_r10_New {S : TS} {K : TV → TS → Prop} (hK : K (refV .new) S) : TCall env 14 [] S K := by
  refine TCall.toPureD (r := refV .new) ?_ hK
  refine TCall.w 3 [.cell 0 33] Tryz.func14 rfl rfl rfl rfl (by kernel_rfl) rfl ?_
  simp -implicitDefEqProofs (disch := omega) only [seval, go_sem]
  refine c_New ?_
  simp -implicitDefEqProofs (disch := omega) only [seval, go_sem]
  refine ⟨_, resCell (id := S.n) rfl ti33 (push_self _ _) rfl rfl, ?_⟩
  refine ⟨refV .new, ?_, ren_refV _ _ _, Keep.push _ _⟩
  exact .aggF (.cons (.refl _) (.cons (.refl _) (.cons (.sl0 _ _ _) (.cons (.sl0 _ _ _) (.cons (.refl _) (.cons (.sl0 _ _ _) .nil))))))
end Go.Proofs.YtlljknmojafkoaaGreatDoor
namespace Go.Proofs.YtlljknmojafkoaaGreatDoor
open Go.RowKit TL
structure StNe (s tab rm k bk rt sm : Nat) : Prop where
  s_tab : s ≠ tab
  s_rm : s ≠ rm
  s_k : s ≠ k
  s_bk : s ≠ bk
  s_rt : s ≠ rt
  s_sm : s ≠ sm
  tab_rm : tab ≠ rm
  tab_k : tab ≠ k
  tab_bk : tab ≠ bk
  tab_rt : tab ≠ rt
  tab_sm : tab ≠ sm
  rm_k : rm ≠ k
  rm_bk : rm ≠ bk
  rm_rt : rm ≠ rt
  rm_sm : rm ≠ sm
  k_bk : k ≠ bk
  k_rt : k ≠ rt
  k_sm : k ≠ sm
  bk_rt : bk ≠ rt
  bk_sm : bk ≠ sm
  rt_sm : rt ≠ sm
theorem nodup7 {s tab rm k bk rt sm : Nat} : [s, tab, rm, k, bk, rt, sm].Nodup ↔ StNe s tab rm k bk rt sm := by
  simp only [List.nodup_cons, List.mem_cons, List.not_mem_nil, or_false, not_or, List.nodup_nil, and_true, not_false_eq_true]
  constructor
  · rintro ⟨⟨a1, a2, a3, a4, a5, a6⟩, ⟨b1, b2, b3, b4, b5⟩, ⟨c1, c2, c3, c4⟩, ⟨d1, d2, d3⟩, ⟨e1, e2⟩, f1⟩
    exact ⟨a1, a2, a3, a4, a5, a6, b1, b2, b3, b4, b5, c1, c2, c3, c4, d1, d2, d3, e1, e2, f1⟩
  · rintro ⟨a1, a2, a3, a4, a5, a6, b1, b2, b3, b4, b5, c1, c2, c3, c4, d1, d2, d3, e1, e2, f1⟩
    exact ⟨⟨a1, a2, a3, a4, a5, a6⟩, ⟨b1, b2, b3, b4, b5⟩, ⟨c1, c2, c3, c4⟩, ⟨d1, d2, d3⟩, ⟨e1, e2⟩, f1⟩
/-- A store goes on: outside of it all is as it was; its parts are old ones of its own or new. -/
structure StTo (S S' : TS) (s : Nat) (I I' : StI) : Prop where
  fr : Frm S S' (stF s I)
  sub : ∀ id, stF s I' id → stF s I id ∨ S.n ≤ id
theorem StTo.refl (S : TS) (s : Nat) (I : StI) : StTo S S s I I := ⟨Frm.refl _ _, fun _ h => .inl h⟩
theorem StTo.trans {S S1 S2 : TS} {s : Nat} {I I1 I2 : StI} (h : StTo S S1 s I I1) (k : StTo S1 S2 s I1 I2) : StTo S S2 s I I2 :=
  ⟨h.fr.trans k.fr h.sub, fun id hi => by
    rcases k.sub id hi with h1 | h1
    · exact h.sub id h1
    · exact .inr (Nat.le_trans h.fr.n h1)⟩
theorem StTo.of_push {S S' : TS} {s : Nat} {I I' : StI} {o : TObj} (h : StTo (S.push o) S' s I I') : StTo S S' s I I' :=
  ⟨h.fr.of_push, fun id hi => by
    rcases h.sub id hi with h1 | h1
    · exact .inl h1
    · exact .inr (Nat.le_of_succ_le h1)⟩
theorem StTo.push {S S' : TS} {s : Nat} {I I' : StI} (h : StTo S S' s I I') (o : TObj) : StTo S (S'.push o) s I I' := ⟨h.fr.push o, h.sub⟩
theorem StTo.set {S S' : TS} {s : Nat} {I I' : StI} (h : StTo S S' s I I') {id : Nat} (hid : S.n ≤ id) (o : TObj) : StTo S (S'.set id o) s I I' := ⟨h.fr.set (.inr hid) o, h.sub⟩
theorem StTo.not {S S' : TS} {s : Nat} {I I' : StI} (h : StTo S S' s I I') {id : Nat} (hi : id < S.n) (hn : ¬ stF s I id) : ¬ stF s I' id := fun hh => by
  rcases h.sub id hh with h1 | h1
  · exact hn h1
  · omega
section
variable {S : TS} {s : Nat} {I : StI} {L : List RowM} {jd : List D} {B : Bs → Bs → Bool} {roots : List Bs} {ver : BitVec 64} {tc : List (Bs × BitVec 64)}
theorem StG.ne (h : StG S s I L jd B roots ver tc) : StNe s I.tab I.rm I.k I.bk I.rt I.sm := nodup7.1 h.nd
theorem StG.nb' (h : StG S s I L jd B roots ver tc) {q : Bs} {id : Nat} (hq : I.bf q = some id) : id ≠ s ∧ id ≠ I.tab ∧ id ≠ I.rm ∧ id ≠ I.k ∧ id ≠ I.bk ∧ id ≠ I.rt ∧ id ≠ I.sm := by
  have := h.nb q id hq
  simpa only [List.mem_cons, List.not_mem_nil, or_false, not_or] using this
/-- The table goes on. -/
theorem StG.setTab (h : StG S s I L jd B roots ver tc) {S' : TS} {k' : Nat} {L' : List RowM} {jd' : List D} (t : TabOk S' I.tab I.rm k' L' jd') (f : Frm S S' (tabF I.tab I.rm I.k)) (hk : S.n ≤ k' ∨ k' = I.k) :
    StG S' s { I with k := k' } L' jd' B roots ver tc ∧ StTo S S' s I { I with k := k' } := by
  have ne := h.ne
  obtain ⟨l1, l2, l3, l4⟩ := h.lt
  obtain ⟨t1, t2, t3⟩ := h.tb.lt
  have hn := f.n
  have n1 := ne.s_k
  have n2 := ne.tab_k
  have n3 := ne.rm_k
  have n4 := ne.k_bk
  have n5 := ne.k_rt
  have n6 := ne.k_sm
  have hnot : ∀ id, id < S.n → id ≠ I.tab → id ≠ I.rm → id ≠ I.k → S'.objs id = S.objs id := fun id hi a b c => f.o id hi fun hh => by rcases hh with e | e | e; exact a e; exact b e; exact c e
  refine ⟨⟨(hnot s l1 ne.s_tab ne.s_rm ne.s_k).trans h.os, t, h.bk.fr hn (hnot _ l2 ne.tab_bk.symm ne.rm_bk.symm ne.k_bk.symm) (fun q id hq => ?_), h.rt.fr (hnot _ l3 ne.tab_rt.symm ne.rm_rt.symm ne.k_rt.symm), ?_, ⟨by omega, by show I.bk < _; omega, by show I.rt < _; omega, by show I.sm < _; omega⟩, nodup7.2 ?_, fun q id hq => ?_⟩, ⟨f.n, fun id hi hf => f.o id hi fun hh => hf ?_⟩, fun id hi => ?_⟩
  · obtain ⟨b1, b2, b3, b4, b5, b6, b7⟩ := h.nb' hq
    exact hnot id (h.bk.yes q id hq).2 b2 b3 b4
  · obtain ⟨es, c, ks, a, b, d⟩ := h.sm
    exact ⟨es, c, ks, (hnot _ l4 ne.tab_sm.symm ne.rm_sm.symm ne.k_sm.symm).trans a, b, d⟩
  · exact ⟨ne.s_tab, ne.s_rm, by show s ≠ k'; omega, ne.s_bk, ne.s_rt, ne.s_sm, ne.tab_rm, by show I.tab ≠ k'; omega, ne.tab_bk, ne.tab_rt, ne.tab_sm, by show I.rm ≠ k'; omega, ne.rm_bk, ne.rm_rt, ne.rm_sm, by show k' ≠ I.bk; omega, by show k' ≠ I.rt; omega, by show k' ≠ I.sm; omega, ne.bk_rt, ne.bk_sm, ne.rt_sm⟩
  · obtain ⟨b1, b2, b3, b4, b5, b6, b7⟩ := h.nb' hq
    have := (h.bk.yes q id hq).2
    simp only [List.mem_cons, List.not_mem_nil, or_false, not_or]
    exact ⟨b1, b2, b3, by omega, b5, b6, b7⟩
  · rcases hh with e | e | e <;> (left; subst e; simp)
  · rcases hi with hi | hi
    · simp only [List.mem_cons, List.not_mem_nil, or_false] at hi
      rcases hi with e | e | e | e | e | e | e
      all_goals first
        | (right; omega)
        | (left; left; subst e; simp; done)
        | (subst e; rcases hk with hk | hk; exact .inr hk; left; left; rw [hk]; simp)
    · exact .inl (.inr hi)
/-- The stamps go on. -/
theorem StG.setSm (h : StG S s I L jd B roots ver tc) {es : Ents} {clock : Nat} {ks : List Bs} {tc' : List (Bs × BitVec 64)} (mo : MapOk kS es clock ks) (hg : ∀ p, (getM kS es p).getD (.lit (w64 0#64)) = .lit (w64 (stampT tc' p))) :
    StG (S.set I.sm (.map es clock)) s I L jd B roots ver tc' := by
  have ne := h.ne
  obtain ⟨l1, l2, l3, l4⟩ := h.lt
  refine ⟨(st_old _ ne.s_sm).trans h.os, h.tb.fr (Nat.le_refl _) (fun id hi => st_old _ ?_), h.bk.fr (Nat.le_refl _) (st_old _ ne.bk_sm) (fun q id hq => st_old _ (h.nb' hq).2.2.2.2.2.2), h.rt.fr (st_old _ ne.rt_sm), ⟨es, clock, ks, TS.set_same' _ _ _, mo, hg⟩, h.lt, h.nd, h.nb⟩
  rcases hi with e | e | e
  · rw [e]; exact ne.tab_sm
  · rw [e]; exact ne.rm_sm
  · rw [e]; exact ne.k_sm
/-- How often something was changed goes on. -/
theorem StG.setVer (h : StG S s I L jd B roots ver tc) (ver' : BitVec 64) : StG (S.set s (.cells 94 [.ptr I.tab 0, .mp I.bk, .mp I.rt, .mp I.sm, .lit (w64 ver')])) s I L jd B roots ver' tc := by
  have ne := h.ne
  refine ⟨TS.set_same' _ _ _, h.tb.fr (Nat.le_refl _) (fun id hi => st_old _ ?_), h.bk.fr (Nat.le_refl _) (st_old _ ne.s_bk.symm) (fun q id hq => st_old _ (h.nb' hq).1), h.rt.fr (st_old _ ne.s_rt.symm), ?_, h.lt, h.nd, h.nb⟩
  · rcases hi with e | e | e
    · rw [e]; exact ne.s_tab.symm
    · rw [e]; exact ne.s_rm.symm
    · rw [e]; exact ne.s_k.symm
  · obtain ⟨es, c, ks, a, b, d⟩ := h.sm
    exact ⟨es, c, ks, (st_old _ ne.s_sm.symm).trans a, b, d⟩
/-- The roots go on. -/
theorem StG.setRt (h : StG S s I L jd B roots ver tc) {o : TObj} {roots' : List Bs} (hs : SetOk (S.set I.rt o) I.rt fun p => decide (p ∈ roots')) : StG (S.set I.rt o) s I L jd B roots' ver tc := by
  have ne := h.ne
  refine ⟨(st_old _ ne.s_rt).trans h.os, h.tb.fr (Nat.le_refl _) (fun id hi => st_old _ ?_), h.bk.fr (Nat.le_refl _) (st_old _ ne.bk_rt) (fun q id hq => st_old _ (h.nb' hq).2.2.2.2.2.1), hs, ?_, h.lt, h.nd, h.nb⟩
  · rcases hi with e | e | e
    · rw [e]; exact ne.tab_rt
    · rw [e]; exact ne.rm_rt
    · rw [e]; exact ne.k_rt
  · obtain ⟨es, c, ks, a, b, d⟩ := h.sm
    exact ⟨es, c, ks, (st_old _ ne.rt_sm.symm).trans a, b, d⟩
theorem StTo.own (h : StG S s I L jd B roots ver tc) {id : Nat} (hi : stF s I id) (o : TObj) : StTo S (S.set id o) s I I := ⟨(Frm.refl S _).set (.inl hi) o, fun _ h => .inl h⟩
theorem stF_sm (s : Nat) (I : StI) : stF s I I.sm := .inl (by simp)
theorem stF_rt (s : Nat) (I : StI) : stF s I I.rt := .inl (by simp)
theorem stF_bk (s : Nat) (I : StI) : stF s I I.bk := .inl (by simp)
theorem stF_s (s : Nat) (I : StI) : stF s I s := .inl (by simp)
theorem c_touchG {g : Tag} {sz : Nat} {l : List Bs} {K : TV → TS → Prop} (h : StG S s I L jd B roots ver tc) (hK : ∀ S', StG S' s I L jd B roots ver (tc ++ l.map fun p => (p, ver)) → StTo S S' s I I → S'.n = S.n → K (.tup []) S') (hz : sz = 1 ∨ l = []) (hl : l.length ≤ 1000000 := by omega) :
    TCall env 59 [.ptr s 0, .sl g sz (dT l)] S K := by
  obtain ⟨es, clock, ks, hm, mo, hg⟩ := h.sm
  refine c_touch h.os hm mo h.ne.s_sm (fun es' clock' ks' mo' hg' => ?_) hz hl
  refine hK _ (h.setSm mo' fun p => ?_) (.own h (stF_sm _ _) _) rfl
  rw [hg', stampT_app]
  split
  · rfl
  · exact hg p
end
end Go.Proofs.YtlljknmojafkoaaGreatDoor
namespace Go.Proofs.YtlljknmojafkoaaGreatDoor
open Go.RowKit TL
theorem jcells : ∀ (fr : List RowM) (i : Nat) (hi : i < fr.length), ((cellsD (fr.map fun r => jE r.path none)).drop (i * 6)).take 6 = [.lit (.string (st (fr[i]).path)), .lit (.string (st [])), .lit (.string (st [])), .sl .none 0 [], .sl .none 0 [], .lit (.bool false)]
  | [], i, hi => by simp at hi
  | r :: fr, 0, _ => rfl
  | r :: fr, i + 1, hi => by
    have e : (i + 1) * 6 = i * 6 + 6 := by omega
    rw [e, List.map_cons, cellsD_cons]
    have e2 : ((cellD (jE r.path none) ++ cellsD (fr.map fun r => jE r.path none)).drop (i * 6 + 6)) = (cellsD (fr.map fun r => jE r.path none)).drop (i * 6) := by
      rw [Nat.add_comm, ← List.drop_drop]; rfl
    rw [e2, jcells fr i (by simpa using hi)]
    rfl
theorem jlen (fr : List RowM) : (cellsD (fr.map fun r => jE r.path none)).length = fr.length * 6 := by
  induction fr with
  | nil => rfl
  | cons r fr ih => rw [List.map_cons, cellsD_cons, List.length_append, ih, List.length_cons]; show 6 + _ = _; omega
theorem dropP_last {A : List RowM} {r : RowM} (h : (pathsOf (A ++ [r])).Nodup) : dropP (A ++ [r]) r.path = A := by
  unfold dropP
  rw [List.filter_append]
  have h1 : [r].filter (fun x => !decide (x.path = r.path)) = [] := by simp
  rw [h1, List.append_nil]
  apply List.filter_eq_self.2
  intro x hx
  simp only [pathsOf, List.map_append, List.nodup_append] at h
  have := h.2.2 x.path (List.mem_map.2 ⟨x, hx, rfl⟩) r.path (by simp)
  simpa using this
theorem Gh.trunc {S : TS} {id e : Nat} {cs : List TV} (hobj : S.objs id = .cells e cs) (n : Nat) : Gh S (S.set id (.cells e (cs.take n))) := fun _ c _ h => ⟨c, h.trunc hobj n, Mono.refl _ _⟩
set_option maxRecDepth 8000 in
set_option maxHeartbeats 1000000 in
theorem c_tab_Undo {S : TS} {tab rm k : Nat} {L fr : List RowM} {K : TV → TS → Prop} (h : TabOk S tab rm k (L ++ fr) (fr.map fun r => jE r.path none)) (hnd : (pathsOf (L ++ fr)).Nodup) (hfl : fr.length ≤ 1000000)
    (hK : ∀ S', TabOk S' tab rm k L [] → Frm S S' (tabF tab rm k) → K (.tup []) S') : TCall env 55 [.ptr tab 0, .lit (.int .i64 0)] S K := by
  refine TCall.gh ?_
  obtain ⟨htl, hml, hkl⟩ := h.lt
  obtain ⟨hn1, hn2, hn3⟩ := h.ne
  have hjl := jlen fr
  refine TCall.w 49 [] Tryz.func55 rfl rfl rfl rfl (by kernel_rfl) rfl ?_
  simp -implicitDefEqProofs (disch := omega) only [seval, go_sem]
  refine loW_inv (fun n T S1 => n ≤ fr.length ∧ T 0 = .ptr tab 0 ∧ T 1 = .lit (.int .i64 0) ∧ Frm S S1 (tabF tab rm k) ∧ S1.objs tab = .cells 152 [.mp rm, .vs k 0 6 n] ∧ S1.objs k = .cells 167 (cellsD (fr.map fun r => jE r.path none)) ∧
    ∃ es clock ks, MapRow S1 rm (L ++ fr.take n) es clock ks) fr.length ?_ ?_
  · refine ⟨Nat.le_refl _, rfl, rfl, Frm.refl _ _, by rw [h.ot, List.length_map], h.oj, ?_⟩
    rw [List.take_length]; exact h.om
  rintro n T S1 ⟨hn, h0, h1, f1, ht, hj, es, clock, ks, g⟩
  have hom := g.om
  have hkeys : keysOk .string es = true := g.mo.ok
  have hsn := f1.n
  simp -implicitDefEqProofs (disch := omega) only [seval, go_sem, h0, h1]
  refine c_tab_Mark ht ?_
  simp -implicitDefEqProofs (disch := omega) only [seval, go_sem, h0, h1]
  refine cdK_d (fun hc => ?_) (fun hc => ?_)
  · obtain ⟨m, rfl⟩ : ∃ m, n = m + 1 := ⟨n - 1, by omega⟩
    have hm : m < fr.length := by omega
    have hcell := jcells fr m hm
    have hsl : tvSlice 6 (.vs k 0 6 (m + 1)) none (some (m : Int)) none = some (.vs k 0 6 m) := by
      simp [tvSlice]
      omega
    have hget : ([TV.lit (Value.string (st fr[m].path)), TV.lit (Value.string (st [])), TV.lit (Value.string (st [])), TV.sl Tag.none 0 [], TV.sl Tag.none 0 [], TV.lit (Value.bool false)].getD 5 TV.unk) = .lit (.bool false) := rfl
    simp -implicitDefEqProofs (disch := omega) only [seval, go_sem, h0, h1, ht, hj, hom, hjl, hcell, hsl, hget]
    refine drW_at [(0,0),(1,0),(2,0),(3,0),(4,0),(5,0),(6,2)] followsN (by kernel_rfl) ?_
    simp -implicitDefEqProofs (disch := omega) only [seval, go_sem, h0, h1, ht, hj, hom, hjl, hcell, hsl, hkeys, keyB_str]
    have htk : fr.take (m + 1) = fr.take m ++ [fr[m]] := by rw [List.take_add_one, List.getElem?_eq_getElem hm]; rfl
    have hdr : dropP (L ++ fr.take (m + 1)) fr[m].path = L ++ fr.take m := by
      rw [htk, ← List.append_assoc]
      refine dropP_last ?_
      rw [List.append_assoc, ← htk]
      refine hnd.sublist (List.Sublist.map _ ?_)
      exact List.Sublist.append (List.Sublist.refl _) (List.take_sublist _ _)
    have hrm1 : rm < S1.n := by omega
    refine ⟨m, Nat.lt_succ_self _, Nat.le_of_lt hm, h0, h1, ?_, ?_, ?_, ?_⟩
    · exact ((f1.set (.inl (.inl rfl)) _).set (.inl (.inr (.inl rfl))) _).push _
    · exact psh_old0 (S := (S1.set _ _).set _ _) ((st_old _ hn1).trans (TS.set_same' _ _ _)) (by show tab < S1.n; omega)
    · exact psh_old0 (S := (S1.set _ _).set _ _) ((st_old _ (Ne.symm hn3)).trans ((st_old _ (Ne.symm hn2)).trans hj)) (by show k < S1.n; omega)
    · rw [← hdr]
      exact ⟨_, _, _, g.del fr[m].path (psh_old0 (S := (S1.set _ _).set _ _) (TS.set_same' _ _ _) hrm1)⟩
  · obtain rfl : n = 0 := by omega
    simp -implicitDefEqProofs (disch := omega) only [seval, go_sem, h0, h1]
    refine ⟨_, Gh.trunc hj 0, hK _ ⟨(st_old _ hn2).trans ht, TS.set_same' _ _ _, rfl, ?_, ⟨by show tab < S1.n; omega, by show rm < S1.n; omega, by show k < S1.n; omega⟩, h.ne⟩ (f1.set (.inl (.inr (.inr rfl))) _)⟩
    rw [List.take_zero, List.append_nil] at g
    exact ⟨es, clock, ks, g.fr (st_old _ hn3)⟩
end Go.Proofs.YtlljknmojafkoaaGreatDoor
namespace Go.Proofs.YtlljknmojafkoaaGreatDoor
open Go.RowKit TL
theorem putF_drop {L : List RowM} {l fr : List RowM} {i : Nat} (hi : i < l.length) : putF L (l.drop i) fr = if fitsR (l.getD i default) = false then (4, fr) else if hasP (L ++ fr) (l.getD i default).path = true then putF L (l.drop (i + 1)) fr
    else if (l.getD i default).refs.all (hasP (L ++ fr)) = false then (6, fr) else if 64 ≤ (L ++ fr).length then (3, fr) else putF L (l.drop (i + 1)) (fr ++ [l.getD i default]) := by
  have e : l.drop i = l.getD i default :: l.drop (i + 1) := drop_at default hi
  rw [e, putF]
theorem putF_no {L : List RowM} {l fr : List RowM} {i : Nat} (hi : i < l.length) (hh : hasP (L ++ fr) (l.getD i default).path = false) : putF L (l.drop i) fr = if mayE (L ++ fr) (l.getD i default) ≠ 0 then (mayE (L ++ fr) (l.getD i default), fr) else putF L (l.drop (i + 1)) (fr ++ [l.getD i default]) := by
  rw [putF_drop hi, hh]
  unfold mayE
  cases fitsR (l.getD i default)
  · rfl
  · cases (l.getD i default).refs.all (hasP (L ++ fr))
    · rfl
    · by_cases h : 64 ≤ (L ++ fr).length
      · simp only [if_pos h]; rfl
      · simp only [if_neg h]; rfl
theorem StG.setOut {S : TS} {s : Nat} {I : StI} {L : List RowM} {jd : List D} {B : Bs → Bs → Bool} {roots : List Bs} {ver : BitVec 64} {tc : List (Bs × BitVec 64)} (h : StG S s I L jd B roots ver tc) {id : Nat} (hn : ¬ stF s I id) (o : TObj) : StG (S.set id o) s I L jd B roots ver tc :=
  h.fr (Nat.le_refl _) fun j hj => st_old _ fun e => hn (by rw [← e]; exact hj)
theorem stF_tab {s : Nat} {I : StI} {id : Nat} (h : tabF I.tab I.rm I.k id) : stF s I id := by
  rcases h with e | e | e <;> (left; subst e; simp)
section
variable {S : TS} {s : Nat} {I : StI} {L : List RowM} {B : Bs → Bs → Bool} {roots : List Bs} {ver : BitVec 64} {tc : List (Bs × BitVec 64)}
set_option maxRecDepth 8000 in
set_option maxHeartbeats 1000000 in
theorem c_stage {g : Tag} {sz : Nat} {l : List RowM} {K : TV → TS → Prop} (h : StG S s I L [] B roots ver tc) (hb : ∀ r ∈ l, RowB r) (hz : sz = 4 ∨ l = []) (hl : l.length ≤ 100000)
    (hK : ∀ S' I' v, StG S' s I' (L ++ (putF L l []).2) ((putF L l []).2.map fun r => jE r.path none) B roots ver tc → StTo S S' s I I' → ((putF L l []).1 = 0 → v = .sl .none 4 (dR (putF L l []).2)) → K (.tup [v, .lit (.int .i64 (putF L l []).1)]) S') :
    TCall env 54 [.ptr s 0, .sl g sz (dR l)] S K := by
  refine TCall.dgR ?_
  have hdl := dR_len l
  refine TCall.w 46 [.tmp 4, .tmp 5] Tryz.func54 rfl rfl rfl rfl (by kernel_rfl) rfl ?_
  simp -implicitDefEqProofs (disch := omega) only [seval, go_sem, hdl]
  refine loW.asRow 6 4 rfl (.inl rfl) ?_
  refine loW_inv (fun n T S1 => ∃ (i : Nat) (fr : List RowM) (I1 : StI) (kf : Nat), n + i = l.length ∧ T 0 = .ptr s 0 ∧ T 10 = .sl g sz (dR l) ∧ T 11 = .lit (.int .i64 (l.length : Int)) ∧ T 12 = .lit (.int .i64 (i : Int)) ∧ T 6 = .sl (.own kf) 4 (dR fr) ∧ fr.length ≤ i ∧
    StG S1 s I1 (L ++ fr) (fr.map fun r => jE r.path none) B roots ver tc ∧ StTo S S1 s I I1 ∧ S1.objs kf = .lin ∧ ¬ stF s I1 kf ∧ S.n ≤ kf ∧ kf < S1.n ∧ putF L l [] = putF L (l.drop i) fr) l.length ?_ ?_
  · refine ⟨0, [], I, S.n, rfl, rfl, rfl, rfl, rfl, rfl, Nat.le_refl _, ?_, (StTo.refl _ _ _).push _, push_self _ _, fun hh => Nat.lt_irrefl _ (h.flt _ hh), Nat.le_refl _, Nat.lt_succ_self _, rfl⟩
    rw [List.append_nil]; exact h.push _
  rintro n T S1 ⟨i, fr, I1, kf, hi, h0, h10, h11, h12, h6, hfi, hst, hto, hkf, hnk, hk1, hk2, hput⟩
  simp -implicitDefEqProofs (disch := omega) only [seval, go_sem, h0, h10, h11, h12, h6]
  refine cdK_d (fun hc => ?_) (fun hc => ?_)
  · have hlt : i < l.length := by omega
    have hz2 : sz = 4 := hz.resolve_right fun e => by rw [e] at hlt; simp at hlt
    subst hz2
    have hx := dR_get hlt
    have hrb : RowB (l.getD i default) := hb _ (getD_mem hlt)
    have hnoP := fun hh => putF_no (L := L) (fr := fr) hlt hh
    rw [putF_drop hlt] at hput hnoP
    generalize l.getD i default = r at *
    rw [rowD_mk] at hx
    have hrow : rowN r = .agg [.lit (.string (st r.path)), .lit (.string (st r.name)), .sl .none 1 (dB r.arc), .sl .none 1 (dT r.refs)] := rfl
    simp -implicitDefEqProofs (disch := omega) only [seval, go_sem, h0, h10, h11, h12, h6, hdl, hx]
    have hbx := push_self S1 (.cells 40 [.lit (.string (st r.path)), .lit (.string (st r.name)), .sl .none 1 (dB r.arc), .sl .none 1 (dT r.refs)])
    have hos := psh_old0 (o2 := .cells 40 [.lit (.string (st r.path)), .lit (.string (st r.name)), .sl .none 1 (dB r.arc), .sl .none 1 (dT r.refs)]) hst.os hst.lt.1
    have hsn := hto.fr.n
    refine c_Has (hst.push _) ?_
    cases hh : hasP (L ++ fr) r.path
    · simp -implicitDefEqProofs (disch := omega) only [seval, go_sem, h0, h10, h11, h12, h6, hdl, hx]
      refine c_may (r := r) (hst.push _) hrb ?_
      rw [hnoP hh] at hput
      simp -implicitDefEqProofs (disch := omega) only [seval, go_sem, h0, h10, h11, h12, h6, hdl, hx]
      refine cdK_d (fun hc2 => ?_) (fun hc2 => ?_)
      · simp -implicitDefEqProofs (disch := omega) only [seval, go_sem, h0, h10, h11, h12, h6, hdl, hx]
        rw [if_pos hc2] at hput
        rw [hput] at hK
        exact ⟨_, .refl _, hK _ I1 _ (hst.push _) (hto.push _) fun e => absurd e hc2⟩
      · have he0 : mayE (L ++ fr) r = 0 := by simpa using hc2
        rw [if_neg (by rw [he0]; simp)] at hput
        simp -implicitDefEqProofs (disch := omega) only [seval, go_sem, h0, h10, h11, h12, h6, hdl, hx]
        refine c_copied (r := r) ?_ hrb
        have hjl : (fr.map fun r => jE r.path none).length ≤ 1000000 := by simp; omega
        simp -implicitDefEqProofs (disch := omega) only [seval, go_sem, h0, h10, h11, h12, h6, hdl, hx, hrow]
        refine drW_at [(0,0),(1,0),(2,0),(3,0),(4,0),(5,0),(6,0),(7,2)] followsN (by kernel_rfl) ?_
        simp -implicitDefEqProofs (disch := omega) only [seval, go_sem, h0, h10, h11, h12, h6, hdl, hx, hrow, hos, hst.os]
        refine c_tab_Set (r := r) (hst.tb.push _) (rowAt_none.2 hh) fun S2 k2 t2 f2 hk22 => ?_
        have hb2 := f2.new (fun id hid => hst.tb.flt id hid)
        have hkf2 : S2.objs kf = .lin := f2.old (Nat.lt_succ_of_lt hk2) (fun hf => hnk (stF_tab hf)) (psh_old0 hkf hk2)
        have hs2 : S1.n + 1 ≤ S2.n := f2.n
        obtain ⟨g2, to2⟩ := (hst.push _).setTab t2 f2 (.inl hk22)
        have hk22' : S1.n + 1 ≤ k2 := hk22
        have hnk2 : ¬ stF s { I1 with k := k2 } kf := fun hf => by
          rcases to2.sub kf hf with h1 | h1
          · exact hnk h1
          · have : S1.n + 1 ≤ kf := h1
            omega
        simp -implicitDefEqProofs (disch := omega) only [seval, go_sem, h0, h10, h11, h12, h6, hdl, hx, hb2, hkf2]
        have hfl := dR_len fr
        refine ⟨by rw [hfl]; omega, rfl, n - 1, by omega, i + 1, fr ++ [r], { I1 with k := k2 }, S2.n, by omega, h0, h10, h11, rfl, by rw [dR_app]; rfl, by simp; omega, ?_, ?_, push_self _ _, (fun hf => Nat.lt_irrefl _ (g2.flt _ hf)), by omega, Nat.lt_succ_self _, hput⟩
        · rw [← List.append_assoc, List.map_append]
          exact (g2.setOut hnk2 _).push _
        · exact (((hto.push _).trans to2).set hk1 _).push _
    · simp -implicitDefEqProofs (disch := omega) only [seval, go_sem, h0, h10, h11, h12, h6, hdl, hx]
      refine c_Fits (r := r) ?_ hrb
      cases hf : fitsR r
      · rw [hf] at hput
        simp -implicitDefEqProofs (disch := omega) only [seval, go_sem, h0, h10, h11, h12, h6, hdl, hx]
        refine c_may (r := r) (hst.push _) hrb ?_
        have hm4 : mayE (L ++ fr) r = 4 := by unfold mayE; rw [hf]; rfl
        rw [hm4]
        simp -implicitDefEqProofs (disch := omega) only [seval, go_sem, h0, h10, h11, h12, h6, hdl, hx]
        have hput' : putF L l [] = (4, fr) := hput
        rw [hput'] at hK
        exact ⟨_, .refl _, hK _ I1 _ (hst.push _) (hto.push _) fun e => by cases e⟩
      · rw [hf, hh] at hput
        simp -implicitDefEqProofs (disch := omega) only [seval, go_sem, h0, h10, h11, h12, h6, hdl, hx]
        exact ⟨n - 1, by omega, i + 1, fr, I1, kf, by omega, h0, h10, h11, rfl, h6, by omega, hst.push _, hto.push _, psh_old0 hkf hk2, hnk, hk1, Nat.lt_succ_of_lt hk2, hput⟩
  · have e : i = l.length := by omega
    subst e
    simp -implicitDefEqProofs (disch := omega) only [seval, go_sem, h0, h10, h11, h12, h6]
    rw [List.drop_length] at hput
    have e2 : putF L l [] = (0, fr) := hput
    rw [e2] at hK
    exact ⟨_, .tupF (.cons (.sl _ _ _) (.cons (.refl _) .nil)), hK S1 I1 _ hst hto fun _ => rfl⟩
end
end Go.Proofs.YtlljknmojafkoaaGreatDoor
namespace Go.Proofs.YtlljknmojafkoaaGreatDoor
open Go.RowKit TL
section
variable {S : TS} {s : Nat} {I : StI} {L : List RowM} {jd : List D} {B : Bs → Bs → Bool} {roots : List Bs} {ver : BitVec 64} {tc : List (Bs × BitVec 64)}
def addB (B : Bs → Bs → Bool) (q p : Bs) : Bs → Bs → Bool := fun q' p' => B q' p' || (decide (q' = q) && decide (p' = p))
theorem SetOk.putT {S' : TS} {id : Nat} {f f' : Bs → Bool} {es : Ents} {clock : Nat} {ks : List Bs} {p : Bs} (mo : MapOk kS es clock ks) (hg : ∀ p, getM kS es p = if f p = true then some (.lit (.bool true)) else none)
    (ho : S'.objs id = .map (putE (kS.v p) (.lit (.bool true)) es clock) (clkE (kS.v p) es clock)) (hf : ∀ p', f' p' = (f p' || decide (p' = p))) : SetOk S' id f' := by
  refine ⟨_, _, _, ho, mo.put p _, fun p' => ?_⟩
  rw [mo.get_put, hg, hf]
  by_cases h : p' = p
  · subst h; simp
  · simp [h]
/-- One more refers to a path that was referred to. -/
theorem StG.linkOld (h : StG S s I L jd B roots ver tc) {q p : Bs} {id : Nat} (hq : I.bf q = some id) {es : Ents} {clock : Nat} {ks : List Bs} (om : S.objs id = .map es clock) (mo : MapOk kS es clock ks) (hg : ∀ p, getM kS es p = if B q p = true then some (.lit (.bool true)) else none) :
    StG (S.set id (.map (putE (kS.v p) (.lit (.bool true)) es clock) (clkE (kS.v p) es clock))) s I L jd (addB B q p) roots ver tc := by
  obtain ⟨b1, b2, b3, b4, b5, b6, b7⟩ := h.nb' hq
  refine ⟨(st_old _ (Ne.symm b1)).trans h.os, h.tb.fr (Nat.le_refl _) (fun j hj => st_old _ ?_), ⟨?_, fun q' id' hq' => ⟨?_, (h.bk.yes q' id' hq').2⟩, fun q' hq' p' => ?_, h.bk.inj⟩, h.rt.fr (st_old _ (Ne.symm b6)), ?_, h.lt, h.nd, h.nb⟩
  · rcases hj with e | e | e
    · rw [e]; exact Ne.symm b2
    · rw [e]; exact Ne.symm b3
    · rw [e]; exact Ne.symm b4
  · obtain ⟨es', c, ks', a, b, d⟩ := h.bk.om
    exact ⟨es', c, ks', (st_old _ (Ne.symm b5)).trans a, b, d⟩
  · by_cases e : q' = q
    · subst e
      rw [hq] at hq'
      cases hq'
      exact SetOk.putT mo hg (TS.set_same' _ _ _) fun p' => by simp [addB]
    · have hne : id' ≠ id := fun e2 => e (h.bk.inj _ _ id (by rw [hq', e2]) hq)
      have := (h.bk.yes q' id' hq').1.fr (S' := S.set id (.map (putE (kS.v p) (.lit (.bool true)) es clock) (clkE (kS.v p) es clock))) (st_old _ hne)
      have hf : addB B q p q' = B q' := by funext p'; simp [addB, e]
      rw [hf]; exact this
  · have hne : q' ≠ q := fun e => by rw [e, hq] at hq'; cases hq'
    simp [addB, hne, h.bk.no q' hq' p']
  · obtain ⟨es', c, ks', a, b, d⟩ := h.sm
    exact ⟨es', c, ks', (st_old _ (Ne.symm b7)).trans a, b, d⟩
theorem getM_one (p p' : Bs) (t : TV) : getM kS (putE (kS.v p) t [] 0) p' = if p' = p then some t else none := by
  rw [(MapOk.nil (κ := kS)).get_put, getM_nil]
/-- One refers to a path that nobody referred to. -/
theorem StG.linkNew (h : StG S s I L jd B roots ver tc) {q p : Bs} (hq : I.bf q = none) {es : Ents} {clock : Nat} {ks : List Bs} (om : S.objs I.bk = .map es clock) (mo : MapOk kS es clock ks) (hg : ∀ q, getM kS es q = (I.bf q).map TV.mp) :
    StG ((S.set I.bk (.map (putE (kS.v q) (.mp S.n) es clock) (clkE (kS.v q) es clock))).push (.map (putE (kS.v p) (.lit (.bool true)) [] 0) (clkE (kS.v p) [] 0))) s { I with bf := fun x => if x = q then some S.n else I.bf x } L jd (addB B q p) roots ver tc := by
  have ne := h.ne
  obtain ⟨l1, l2, l3, l4⟩ := h.lt
  obtain ⟨t1, t2, t3⟩ := h.tb.lt
  have hold : ∀ id, id < S.n → id ≠ I.bk → ((S.set I.bk (.map (putE (kS.v q) (.mp S.n) es clock) (clkE (kS.v q) es clock))).push (.map (putE (kS.v p) (.lit (.bool true)) [] 0) (clkE (kS.v p) [] 0))).objs id = S.objs id := fun id hi hn =>
    psh_old0 (S := S.set _ _) (st_old _ hn) hi
  refine ⟨(hold _ l1 ne.s_bk).trans h.os, h.tb.fr (Nat.le_succ _) (fun j hj => hold j (h.tb.flt j hj) ?_), ⟨⟨_, _, _, psh_old0 (S := S.set _ _) (TS.set_same' _ _ _) l2, mo.put q _, fun q' => ?_⟩, fun q' id' hq' => ?_, fun q' hq' p' => ?_, fun q1 q2 id' h1 h2 => ?_⟩, h.rt.fr (hold _ l3 ne.bk_rt.symm), ?_,
    ⟨Nat.lt_succ_of_lt l1, Nat.lt_succ_of_lt l2, Nat.lt_succ_of_lt l3, Nat.lt_succ_of_lt l4⟩, h.nd, fun q' id' hq' => ?_⟩
  · rcases hj with e | e | e
    · rw [e]; exact ne.tab_bk
    · rw [e]; exact ne.rm_bk
    · rw [e]; exact ne.k_bk
  · rw [mo.get_put, hg]
    show _ = Option.map TV.mp (if q' = q then some S.n else I.bf q')
    by_cases e : q' = q
    · rw [if_pos e, if_pos e]; rfl
    · rw [if_neg e, if_neg e]
  · simp only at hq'
    by_cases e : q' = q
    · rw [if_pos e] at hq'
      cases hq'
      subst e
      refine ⟨⟨_, _, _, push_self _ _, (MapOk.nil (κ := kS)).put p _, fun p' => ?_⟩, Nat.lt_succ_self _⟩
      rw [getM_one]
      simp [addB, h.bk.no q' hq p']
    · rw [if_neg e] at hq'
      have hlt := (h.bk.yes q' id' hq').2
      refine ⟨?_, Nat.lt_succ_of_lt hlt⟩
      have hf : addB B q p q' = B q' := by funext p'; simp [addB, e]
      rw [hf]
      exact (h.bk.yes q' id' hq').1.fr (hold _ hlt (h.nb' hq').2.2.2.2.1)
  · simp only at hq'
    by_cases e : q' = q
    · rw [if_pos e] at hq'; cases hq'
    · rw [if_neg e] at hq'
      simp [addB, e, h.bk.no q' hq' p']
  · simp only at h1 h2
    by_cases e1 : q1 = q
    · by_cases e2 : q2 = q
      · rw [e1, e2]
      · rw [if_pos e1] at h1
        rw [if_neg e2] at h2
        cases h1
        have := (h.bk.yes q2 _ h2).2
        omega
    · rw [if_neg e1] at h1
      by_cases e2 : q2 = q
      · rw [if_pos e2] at h2
        cases h2
        have := (h.bk.yes q1 _ h1).2
        omega
      · rw [if_neg e2] at h2
        exact h.bk.inj _ _ _ h1 h2
  · obtain ⟨es', c, ks', a, b, d⟩ := h.sm
    exact ⟨es', c, ks', (hold _ l4 ne.bk_sm.symm).trans a, b, d⟩
  · simp only at hq'
    by_cases e : q' = q
    · rw [if_pos e] at hq'
      cases hq'
      simp only [List.mem_cons, List.not_mem_nil, or_false, not_or]
      exact ⟨by omega, by omega, by omega, by omega, by omega, by omega, by omega⟩
    · rw [if_neg e] at hq'
      exact h.nb q' id' hq'
theorem StTo.linkNew {q : Bs} {o o2 : TObj} : StTo S ((S.set I.bk o).push o2) s I { I with bf := fun x => if x = q then some S.n else I.bf x } :=
  ⟨((Frm.refl S _).set (.inl (stF_bk _ _)) _).push _, fun id hi => by
    rcases hi with hi | ⟨x, hx⟩
    · exact .inl (.inl hi)
    · simp only at hx
      by_cases e : x = q
      · rw [if_pos e] at hx; cases hx; exact .inr (Nat.le_refl _)
      · rw [if_neg e] at hx; exact .inl (.inr ⟨x, hx⟩)⟩
def linkB (B : Bs → Bs → Bool) (refs : List Bs) (p : Bs) : Bs → Bs → Bool := fun q' p' => B q' p' || (decide (q' ∈ refs) && decide (p' = p))
theorem linkB_nil (B : Bs → Bs → Bool) (p : Bs) : linkB B [] p = B := by funext q p'; simp [linkB]
theorem linkB_snoc (B : Bs → Bs → Bool) (l : List Bs) (q p : Bs) : addB (linkB B l p) q p = linkB B (l ++ [q]) p := by
  funext q' p'
  simp only [addB, linkB, List.mem_append, List.mem_singleton]
  cases B q' p' <;> by_cases h1 : q' ∈ l <;> by_cases h2 : q' = q <;> by_cases h3 : p' = p <;> simp [h1, h2, h3]
set_option maxRecDepth 8000 in
set_option maxHeartbeats 1000000 in
theorem c_link {r : RowM} {K : TV → TS → Prop} (h : StG S s I L jd B roots ver tc) (hb : RowB r)
    (hK : ∀ S' I', StG S' s I' L jd (linkB B r.refs r.path) roots ver (tc ++ (rowTouch r).map fun p => (p, ver)) → StTo S S' s I I' → K (.tup []) S') : TCall env 57 [.ptr s 0, rowN r] S K := by
  have hrl := hb.rl
  have hdl := dT_len r.refs
  rw [rowN_mk]
  refine TCall.w 44 [] Tryz.func57 rfl rfl rfl rfl (by kernel_rfl) rfl ?_
  simp -implicitDefEqProofs (disch := omega) only [seval, go_sem, hdl]
  generalize hS0 : S.push _ = S0
  have hbx0 : S0.objs S.n = .cells 40 [.lit (.string (st r.path)), .lit (.string (st r.name)), .sl .none 1 (dB r.arc), .sl .none 1 (dT r.refs)] := by rw [← hS0]; exact push_self _ _
  have h0 : StG S0 s I L jd B roots ver tc := by rw [← hS0]; exact h.push _
  have hn0 : S0.n = S.n + 1 := by rw [← hS0]; rfl
  have hto0 : StTo S S0 s I I := by rw [← hS0]; exact (StTo.refl _ _ _).push _
  have hnb : ¬ stF s I S.n := fun hh => Nat.lt_irrefl _ (h.flt _ hh)
  refine loW_inv (fun n T S1 => ∃ (i : Nat) (I1 : StI), n + i = r.refs.length ∧ T 0 = .ptr s 0 ∧ T 3 = .ptr S.n 0 ∧ T 7 = .sl .none 1 (dT r.refs) ∧ T 8 = .lit (.int .i64 (r.refs.length : Int)) ∧ T 9 = .lit (.int .i64 (i : Int)) ∧
    StG S1 s I1 L jd (linkB B (r.refs.take i) r.path) roots ver tc ∧ StTo S0 S1 s I I1) r.refs.length ?_ ?_
  · exact ⟨0, I, rfl, rfl, rfl, rfl, rfl, rfl, by rw [List.take_zero, linkB_nil]; exact h0, StTo.refl _ _ _⟩
  rintro n T S1 ⟨i, I1, hi, h0', h3, h7, h8, h9, hst, hto⟩
  have hbx : S1.objs S.n = .cells 40 [.lit (.string (st r.path)), .lit (.string (st r.name)), .sl .none 1 (dB r.arc), .sl .none 1 (dT r.refs)] := hto.fr.old (by omega) hnb hbx0
  have hn1 := hto.fr.n
  have hos := hst.os
  obtain ⟨es, clock, ks, om, mo, hg⟩ := hst.bk.om
  have hkeys : keysOk .string es = true := mo.ok
  simp -implicitDefEqProofs (disch := omega) only [seval, go_sem, h0', h3, h7, h8, h9, hdl]
  refine cdK_d (fun hc => ?_) (fun hc => ?_)
  · have hlt : i < r.refs.length := by omega
    have hx := dT_get hlt
    have htk := take_succ_D r.refs (i := i) [] hlt
    generalize r.refs.getD i [] = q at *
    cases hq : I1.bf q with
    | none =>
      have hlk : lookT (.string (st q)) es (.lit (.map none)) = .lit (.map none) := by
        show lookT (kS.v q) es _ = _
        rw [look_get, hg, hq]; rfl
      have hlk2 : lookT (.string (st q)) (putE (.string (st q)) (.mp S1.n) es clock) (.lit (.map none)) = .mp S1.n := by
        show lookT (kS.v q) (putE (kS.v q) _ es clock) _ = _
        rw [look_get, mo.get_put, if_pos rfl]; rfl
      have hkeys2 : keysOk .string (putE (.string (st q)) (.mp S1.n) es clock) = true := (mo.put q (.mp S1.n)).ok
      have hk0 : keysOk .string ([] : Ents) = true := rfl
      have hbl := hst.lt.2.1
      simp -implicitDefEqProofs (disch := omega) only [seval, go_sem, h0', h3, h7, h8, h9, hdl, hx, hos, om, hkeys, keyB_str, lkT_f, hlk]
      refine drW_at [(0,0),(1,0),(2,0),(3,0),(4,0),(5,0),(6,0),(7,0),(8,2)] followsN (by kernel_rfl) ?_
      have hne := hst.ne.s_bk
      have hsl := hst.lt.1
      have hsb : S.n ≠ I1.bk := fun e => hto.not (by omega) hnb (by rw [e]; exact stF_bk s I1)
      simp -implicitDefEqProofs (disch := omega) only [seval, go_sem, h0', h3, h7, h8, h9, hdl, hx, hos, om, hkeys, keyB_str, lkT_f, hlk, hlk2, hkeys2, hk0, hbx]
      refine ⟨n - 1, by omega, i + 1, { I1 with bf := fun x => if x = q then some S1.n else I1.bf x }, by omega, h0', h3, h7, h8, rfl, ?_, hto.trans .linkNew⟩
      rw [htk, ← linkB_snoc]
      exact hst.linkNew hq om mo hg
    | some id =>
      obtain ⟨es2, clock2, ks2, om2, mo2, hg2⟩ := (hst.bk.yes q id hq).1
      have hkeys2 : keysOk .string es2 = true := mo2.ok
      have hlk : lookT (.string (st q)) es (.lit (.map none)) = .mp id := by
        show lookT (kS.v q) es _ = _
        rw [look_get, hg, hq]; rfl
      simp -implicitDefEqProofs (disch := omega) only [seval, go_sem, h0', h3, h7, h8, h9, hdl, hx, hos, om, hkeys, keyB_str, lkT_f, hlk]
      refine drW_at [(0,0),(1,0),(2,0),(3,0),(4,0),(5,0),(6,0),(7,0),(8,2)] followsN (by kernel_rfl) ?_
      simp -implicitDefEqProofs (disch := omega) only [seval, go_sem, h0', h3, h7, h8, h9, hdl, hx, hos, om, hkeys, keyB_str, lkT_f, hlk, om2, hkeys2, hbx]
      refine ⟨n - 1, by omega, i + 1, I1, by omega, h0', h3, h7, h8, rfl, ?_, hto.trans (.own hst (.inr ⟨q, hq⟩) _)⟩
      rw [htk, ← linkB_snoc]
      exact hst.linkOld hq om2 mo2 hg2
  · have e : i = r.refs.length := by omega
    subst e
    rw [List.take_length] at hst
    simp -implicitDefEqProofs (disch := omega) only [seval, go_sem, h0', h3, h7, h8, h9, hdl, hbx]
    rw [dT_one]
    refine c_touchG hst (fun S2 g2 t2 n2 => ?_) (.inl rfl) (by simp)
    have hbx2 : S2.objs S.n = .cells 40 [.lit (.string (st r.path)), .lit (.string (st r.name)), .sl .none 1 (dB r.arc), .sl .none 1 (dT r.refs)] := t2.fr.old (by omega) (hto.not (by omega) hnb) hbx
    simp -implicitDefEqProofs (disch := omega) only [seval, go_sem, h0', h3, h7, h8, h9, hdl, hbx2]
    refine c_touchG g2 (fun S3 g3 t3 n3 => ?_) (.inl rfl)
    simp -implicitDefEqProofs (disch := omega) only [seval, go_sem]
    refine hK S3 I1 ?_ (((hto0.trans hto).trans t2).trans t3)
    rw [List.append_assoc, ← List.map_append] at g3
    exact g3
end
end Go.Proofs.YtlljknmojafkoaaGreatDoor
