/-
  The logic: calls and code over tree values.
-/
import Derived.Test.YteafcknljhglkaaDoorTlLa
set_option linter.unusedVariables false
set_option linter.unusedSimpArgs false
namespace Go.Proofs.YteafcknljhglkaaDoor.TL
open Go.RowKit

def Ent (P : Program) (f : FuncId) : Prop := ∀ args w, (callFunc f args).run P w = .ok (.enter f args) w

theorem ent_of {P : Program} {f : FuncId} {fn : Func} (hf : P.funcs[f]? = some fn) (hb : fn.body.isNone = false) (hn : (fn.name == "runtime.NumGoroutine") = false) : Ent P f := by
  intro args w
  unfold callFunc
  simp only [Sem.run_bind, run_program, Result.andThen_ok, hf, hn, Bool.false_eq_true, if_false, hb, Sem.run_pure]

/-- Called with these arguments in this state, f returns, and R holds of its result and of the state behind it. -/
def TCall (E : Env) (f : FuncId) (args : List TV) (S : TS) (R : TV → TS → Prop) : Prop :=
  Ent E.P f ∧ ∀ w0 c w (vs : Array Value), Ok E w0 c S w → RdCells c w args vs → Calls E.P f vs w fun e w' => ∃ v, e = .returned v ∧ Fin E w0 c w R v w'

theorem Fin.mono {E : Env} {w0 : World} {c : Cx} {w : World} {R R' : TV → TS → Prop} {v : Value} {w' : World} (h : Fin E w0 c w R v w') (hr : ∀ t S, R t S → R' t S) : Fin E w0 c w R' v w' :=
  let ⟨t, c', S', a, b, d, e⟩ := h
  ⟨t, c', S', a, b, d, hr _ _ e⟩
theorem TCall.mono {E : Env} {f : FuncId} {args : List TV} {S : TS} {R R' : TV → TS → Prop} (h : TCall E f args S R) (hr : ∀ t S, R t S → R' t S) : TCall E f args S R' :=
  ⟨h.1, fun w0 c w vs hk hv => (h.2 w0 c w vs hk hv).mono fun e w' ⟨v, he, hf⟩ => ⟨v, he, hf.mono hr⟩⟩

theorem e_call {E : Env} {o : Oper} {T : Nat → TV} {S : TS} {f : Operand} {args : Array Operand} {ty : Array TypeId} (ho : o.op = .call { callee := .value f, args, argTypes := ty }) {g : FuncId} {first cap : List TV} {K : TV → TS → Prop}
    (hf : evO E T f = .fn (.func g) first cap) (h : TCall E g (first ++ args.toList.map (evO E T) ++ cap) S K) : ESem E o T S K := by
  intro w0 c w a hk hop next Q hn
  rw [ho] at hop
  have h1 := hop f (by simp [Op.operands, Call.operands])
  rw [hf] at h1
  generalize hv : a.eval f = v at h1
  cases h1 with
  | fn _ _ _ vs ws k1 k2 k3 k4 =>
    have hrd : RdCells c w (first ++ args.toList.map (evO E T) ++ cap) (vs ++ args.map a.eval ++ ws) := by
      refine ⟨by simp [k1, k2], fun j t u a1 a2 => ?_⟩
      rw [Array.getElem?_append] at a2
      rw [List.getElem?_append] at a1
      simp only [List.length_append, List.length_map, Array.length_toList, Array.size_append, Array.size_map, k1] at a1 a2
      split at a1
      · rename_i hj
        rw [if_pos hj] at a2
        rw [Array.getElem?_append] at a2
        rw [List.getElem?_append] at a1
        rw [k1] at a2
        split at a1
        · rename_i hj2
          rw [if_pos hj2] at a2
          exact k3 j t u a1 a2
        · rename_i hj2
          rw [if_neg hj2] at a2
          rw [List.getElem?_map] at a1
          obtain ⟨x, hx, rfl⟩ := Option.map_eq_some_iff.1 a1
          rw [Array.getElem?_map, ← Array.getElem?_toList, hx] at a2
          simp only [Option.map_some, Option.some.injEq] at a2
          subst a2
          refine hop x ?_
          simp only [Op.operands, Call.operands, Array.toList_append, List.mem_append]
          exact .inr (List.mem_of_getElem? hx)
      · rename_i hj
        rw [if_neg hj] at a2
        exact k4 _ t u a1 a2
    unfold Oper.wp
    have hrun : (execOp a.eval o).run E.P w = .ok (.enter g (vs ++ args.map a.eval ++ ws)) w := by
      unfold execOp
      rw [ho]
      simp only [resolve, Sem.run_bind, Result.andThen_ok, hv, Deferred.ofValue, Sem.run_pure, invoke, h.1 _ w]
    rw [hrun]
    simp only [Oper.upon]
    refine (h.2 w0 c w _ hk hrd).mono fun e w' ⟨u, he, hfin⟩ => ?_
    subst he
    exact hn u w' hfin

/-! ### code -/
def opInb (N : Nat) (o : Oper) : Bool := o.op.operands.toList.all (inb N)
def codeInb (N : Nat) : Code → Bool
  | .region _ ops _ => ops.toList.all (opInb N)
  | .seq a b => codeInb N a && codeInb N b
  | .cond c a b => inb N c && codeInb N a && codeInb N b
  | .block _ c => codeInb N c
  | .loop c => codeInb N c
  | _ => true

def Sto (E : Env) (w0 : World) (c : Cx) (w : World) (N : Nat) (ds : List Deferred) (Q : Exit → (Nat → TV) → TS → Prop) (e : Exit) (a' : Act) (w' : World) : Prop :=
  ∃ T' S' c', Ok E w0 c' S' w' ∧ Mono c w c' w' ∧ Tmps c' w' T' a' ∧ a'.tmps.size = N ∧ a'.defers = ds ∧ Q e T' S'

def TWp (E : Env) (N : Nat) (code : Code) (Q : Exit → (Nat → TV) → TS → Prop) (T : Nat → TV) (S : TS) : Prop :=
  codeInb N code = true → ∀ w0 c w a, Ok E w0 c S w → Tmps c w T a → a.tmps.size = N → code.wp E.P (Sto E w0 c w N a.defers Q) a w

theorem Sto.trans {E : Env} {w0 : World} {c c1 : Cx} {w w1 : World} {N : Nat} {ds : List Deferred} {Q : Exit → (Nat → TV) → TS → Prop} {e : Exit} {a' : Act} {w' : World} (m : Mono c w c1 w1) (h : Sto E w0 c1 w1 N ds Q e a' w') : Sto E w0 c w N ds Q e a' w' :=
  let ⟨T', S', c', h1, h2, h3⟩ := h
  ⟨T', S', c', h1, m.trans h2, h3⟩

theorem TWp.mono {E : Env} {N : Nat} {code : Code} {Q Q' : Exit → (Nat → TV) → TS → Prop} {T : Nat → TV} {S : TS} (h : TWp E N code Q T S) (hq : ∀ e T S, Q e T S → Q' e T S) : TWp E N code Q' T S :=
  fun hi w0 c w a hk ht hs => wp_mono (h hi w0 c w a hk ht hs) fun e a' w' ⟨T', S', c', h1, h2, h3, h4, h5, h6⟩ => ⟨T', S', c', h1, h2, h3, h4, h5, hq _ _ _ h6⟩

def thenT (next : (Nat → TV) → TS → Prop) (Q : Exit → (Nat → TV) → TS → Prop) : Exit → (Nat → TV) → TS → Prop
  | .normal, T, S => next T S
  | e, T, S => Q e T S
def blockT (id : Nat) (Q : Exit → (Nat → TV) → TS → Prop) : Exit → (Nat → TV) → TS → Prop
  | .exit id', T, S => if id' = id then Q .normal T S else Q (.exit id') T S
  | e, T, S => Q e T S

section
variable {E : Env} {N : Nat} {Q : Exit → (Nat → TV) → TS → Prop} {T : Nat → TV} {S : TS}

theorem TWp.skip (h : Q .normal T S) : TWp E N .skip Q T S := fun _ w0 c w a hk ht hs => wp_skip ⟨T, S, c, hk, Mono.refl c w, ht, hs, rfl, h⟩
theorem TWp.label {l : Nat} (h : Q .normal T S) : TWp E N (.label l) Q T S := fun _ w0 c w a hk ht hs => wp_label ⟨T, S, c, hk, Mono.refl c w, ht, hs, rfl, h⟩
theorem TWp.exit {id : Nat} (h : Q (.exit id) T S) : TWp E N (.exit id) Q T S := fun _ w0 c w a hk ht hs => wp_exit ⟨T, S, c, hk, Mono.refl c w, ht, hs, rfl, h⟩
theorem TWp.ret (h : Q .ret T S) : TWp E N .ret Q T S := fun _ w0 c w a hk ht hs => wp_ret ⟨T, S, c, hk, Mono.refl c w, ht, hs, rfl, h⟩

theorem TWp.seq {x y : Code} (h : TWp E N x (thenT (fun T S => TWp E N y Q T S) Q) T S) : TWp E N (.seq x y) Q T S := by
  intro hi w0 c w a hk ht hs
  simp only [codeInb, Bool.and_eq_true] at hi
  refine wp_seq (wp_mono (h hi.1 w0 c w a hk ht hs) ?_)
  rintro e a' w' ⟨T', S', c', h1, h2, h3, h4, h5, h6⟩
  cases e with
  | normal =>
    refine wp_mono (h6 hi.2 w0 c' w' a' h1 h3 h4) ?_
    rintro e a2 w2 hq
    rw [h5] at hq
    exact hq.trans h2
  | _ => exact ⟨T', S', c', h1, h2, h3, h4, h5, h6⟩

theorem TWp.cond {o : Operand} {x y : Code} {b : Bool} (hc : evO E T o = .lit (.bool b)) (ht : b = true → TWp E N x Q T S) (hf : b = false → TWp E N y Q T S) : TWp E N (.cond o x y) Q T S := by
  intro hi w0 c w a hk htm hs
  simp only [codeInb, Bool.and_eq_true] at hi
  have h1 := evO_ok hk htm o (by rw [hs]; exact hi.1.1)
  rw [hc] at h1
  refine wp_cond_split h1.lit_inv (fun hb => ht hb hi.1.2 w0 c w a hk htm hs) (fun hb => hf hb hi.2 w0 c w a hk htm hs)

theorem TWp.block {id : Nat} {x : Code} (h : TWp E N x (blockT id Q) T S) : TWp E N (.block id x) Q T S := by
  intro hi w0 c w a hk ht hs
  refine wp_block (wp_mono (h hi w0 c w a hk ht hs) ?_)
  rintro e a' w' ⟨T', S', c', h1, h2, h3, h4, h5, h6⟩
  cases e with
  | exit id' =>
    simp only [blockT] at h6
    simp only [Exit.inBlock]
    split
    · rename_i hid; rw [if_pos hid] at h6; exact ⟨T', S', c', h1, h2, h3, h4, h5, h6⟩
    · rename_i hid; rw [if_neg hid] at h6; exact ⟨T', S', c', h1, h2, h3, h4, h5, h6⟩
  | _ => exact ⟨T', S', c', h1, h2, h3, h4, h5, h6⟩

/-- A loop: an invariant that bears a number, which each round lowers. -/
theorem TWp.loop {x : Code} (I : Nat → (Nat → TV) → TS → Prop) (n : Nat) (h0 : I n T S)
    (round : ∀ n T S, I n T S → TWp E N x (thenT (fun T' S' => ∃ m, m < n ∧ I m T' S') Q) T S) : TWp E N (.loop x) Q T S := by
  intro hi w0 c w a hk ht hs
  refine wp_loop_ghost (fun k a' w' => ∃ T' S' c', Ok E w0 c' S' w' ∧ Mono c w c' w' ∧ Tmps c' w' T' a' ∧ a'.tmps.size = N ∧ a'.defers = a.defers ∧ I k T' S') n ⟨T, S, c, hk, Mono.refl c w, ht, hs, rfl, h0⟩ ?_
  rintro k a1 w1 ⟨T1, S1, c1, h1, h2, h3, h4, h5, h6⟩
  refine wp_mono (round k T1 S1 h6 hi w0 c1 w1 a1 h1 h3 h4) ?_
  rintro e a' w' ⟨T', S', c', g1, g2, g3, g4, g5, g6⟩
  rw [h5] at g5
  cases e with
  | normal =>
    obtain ⟨m, hm, hI⟩ := g6
    exact ⟨m, hm, T', S', c', g1, h2.trans g2, g3, g4, g5, hI⟩
  | _ => exact ⟨T', S', c', g1, h2.trans g2, g3, g4, g5, g6⟩
end

/-! ### regions whose order is the text's -/
theorem Tmps.put {c : Cx} {w : World} {T : Nat → TV} {a : Act} (h : Tmps c w T a) {dst : Option Nat} {t : TV} {v : Value} (hr : RdT c w t v) : Tmps c w (putT T dst t) (a.put dst v) := by
  cases dst with
  | none => exact h
  | some d =>
    intro i u hu
    simp only [Act.put, Array.getElem?_setIfInBounds] at hu
    simp only [putT, upd]
    by_cases hi : d = i
    · rw [if_pos hi] at hu
      rw [if_pos hi.symm]
      split at hu
      · injection hu with hu; subst hu; exact hr
      · cases hu
    · rw [if_neg hi] at hu
      rw [if_neg (fun hh => hi hh.symm)]
      exact h i u hu
theorem put_size (a : Act) (dst : Option Nat) (v : Value) : (a.put dst v).tmps.size = a.tmps.size := by cases dst <;> simp [Act.put]
theorem put_defers' (a : Act) (dst : Option Nat) (v : Value) : (a.put dst v).defers = a.defers := by cases dst <;> rfl

def TOps (E : Env) (N : Nat) (ops : Array Oper) (l : List Oper) (K : (Nat → TV) → TS → Prop) (T : Nat → TV) (S : TS) : Prop :=
  l.all (opInb N) = true → ∀ w0 c w a, Ok E w0 c S w → Tmps c w T a → a.tmps.size = N → wpList E.P ops (Sto E w0 c w N a.defers fun e T S => e = .normal ∧ K T S) l a w

theorem wpList_mono {P : Program} {ops : Array Oper} {Q Q' : Exit → Act → World → Prop} (hq : ∀ e a w, Q e a w → Q' e a w) : ∀ (l : List Oper) (a : Act) (w : World), wpList P ops Q l a w → wpList P ops Q' l a w
  | [], a, w, h => hq _ _ _ h
  | o :: l, a, w, h => by
    unfold wpList at h ⊢
    split
    · rename_i hw
      rw [if_pos hw] at h
      rcases h with h | ⟨h1, a0, w1, h2⟩
      · left
        unfold Oper.wp at h ⊢
        generalize (execOp a.eval o).run P w = r at *
        cases r with
        | ok n w' =>
          cases n <;> simp only [Oper.upon] at h ⊢ <;> first
            | exact wpList_mono hq l _ _ h
            | exact Calls.mono h (fun e w'' he => by
                cases e with
                | returned v => exact wpList_mono hq l _ _ he
                | panicked ch => exact hq _ _ _ he
                | outgrown => obtain ⟨a0, w1, h2⟩ := he; exact ⟨a0, w1, hq _ _ _ h2⟩)
            | exact Rows.mono h (fun _ _ he => wpList_mono hq l _ _ he)
        | halt x w' => cases x <;> simp only [Oper.upon] at h ⊢ <;> first | exact hq _ _ _ h | exact h
      · exact .inr ⟨h1, a0, w1, hq _ _ _ h2⟩
    · rename_i hw
      rw [if_neg hw] at h
      exact wpList_mono hq l _ _ h

theorem TOps.nil {E : Env} {N : Nat} {ops : Array Oper} {K : (Nat → TV) → TS → Prop} {T : Nat → TV} {S : TS} (h : K T S) : TOps E N ops [] K T S :=
  fun _ w0 c w a hk ht hs => ⟨T, S, c, hk, Mono.refl c w, ht, hs, rfl, rfl, h⟩

theorem TOps.step {E : Env} {N : Nat} {ops : Array Oper} {o : Oper} {l : List Oper} {K : (Nat → TV) → TS → Prop} {T : Nat → TV} {S : TS} (hg : o.guard = none)
    (h : ESem E o T S fun t S' => TOps E N ops l K (putT T o.dst t) S') : TOps E N ops (o :: l) K T S := by
  intro hi w0 c w a hk ht hs
  simp only [List.all_cons, Bool.and_eq_true] at hi
  unfold wpList
  rw [if_pos (by simp [Region.wanted, hg])]
  left
  refine h w0 c w a hk (opn_of hk ht o.op (by rw [hs]; exact hi.1)) _ _ ?_
  rintro v w' ⟨t, c', S', h1, h2, h3, h4⟩
  have := h4 hi.2 w0 c' w' (a.put o.dst v) h1 ((ht.step h2).put h3) (by rw [put_size, hs])
  rw [put_defers'] at this
  exact wpList_mono (fun e a' w' hq => hq.trans h2) _ _ _ this

def bOf : Value → Option Bool
  | .bool b => some b
  | _ => none
/-- An operation behind a guard. -/
theorem TOps.guarded {E : Env} {N : Nat} {ops : Array Oper} {o : Oper} {l : List Oper} {K : (Nat → TV) → TS → Prop} {T : Nat → TV} {S : TS} {j d : Nat} {want : Bool} {b : Value} (hg : o.guard = some (j, want)) (hd : (ops[j]?).bind (·.dst) = some d) (hb : T d = .lit b) (hN : d < N)
    (h1 : bOf b = some want → ESem E o T S fun t S' => TOps E N ops l K (putT T o.dst t) S') (h2 : bOf b ≠ some want → TOps E N ops l K (putT T o.dst (.lit undef)) S) : TOps E N ops (o :: l) K T S := by
  intro hi w0 c w a hk ht hs
  simp only [List.all_cons, Bool.and_eq_true] at hi
  have hy : yielded ops a.tmps j = bOf b := by
    unfold yielded
    rw [hd]
    have hlt : d < a.tmps.size := by omega
    have hv : a.tmps[d]? = some a.tmps[d] := Array.getElem?_eq_getElem hlt
    have := ht d _ hv
    rw [hb] at this
    simp only [Option.bind_some, hv, this.lit_inv]
    cases b <;> rfl
  unfold wpList
  by_cases hbw : bOf b = some want
  · rw [if_pos (by simp [Region.wanted, hg, hy, hbw])]
    left
    refine h1 hbw w0 c w a hk (opn_of hk ht o.op (by rw [hs]; exact hi.1)) _ _ ?_
    rintro v w' ⟨t, c', S', k1, k2, k3, k4⟩
    have := k4 hi.2 w0 c' w' (a.put o.dst v) k1 ((ht.step k2).put k3) (by rw [put_size, hs])
    rw [put_defers'] at this
    exact wpList_mono (fun e a' w' hq => hq.trans k2) _ _ _ this
  · rw [if_neg (by simp [Region.wanted, hg, hy, hbw])]
    have := h2 hbw hi.2 w0 c w (a.put o.dst undef) hk (ht.put (.lit _)) (by rw [put_size, hs])
    rw [put_defers'] at this
    exact this

theorem TWp.region {E : Env} {N : Nat} {id : Nat} {ops : Array Oper} {Q : Exit → (Nat → TV) → TS → Prop} {T : Nat → TV} {S : TS} (h : TOps E N ops ops.toList (fun T S => Q .normal T S) T S) : TWp E N (.region id ops false) Q T S := by
  intro hi w0 c w a hk ht hs
  refine wp_region_list (wpList_mono ?_ _ _ _ (h hi w0 c w a hk ht hs))
  rintro e a' w' ⟨T', S', c', h1, h2, h3, h4, h5, rfl, h6⟩
  exact ⟨T', S', c', h1, h2, h3, h4, h5, h6⟩

/-! ### a function -/
def argsT (args : List TV) : Nat → TV := fun i => (args[i]?).getD .unk

/-- One result out of its place. -/
def resOne (E : Env) (T : Nat → TV) (S : TS) (r : ResultVar) (t : TV) : Prop :=
  match r with
  | .tmp i => t = T i
  | .cell i ty => ∃ (id off e : Nat) (cs : List TV) (inf : TI), T i = .ptr id off ∧ tiOf E.P ty = some inf ∧ S.objs id = .cells e cs ∧ (if isAggD inf.desc then off + inf.size ≤ cs.length ∧ t = .agg ((cs.drop off).take inf.size) else cs[off]? = some t)
def resInb (N : Nat) : ResultVar → Bool
  | .tmp i => decide (i < N)
  | .cell i _ => decide (i < N)

def resAll (E : Env) (T : Nat → TV) (S : TS) : List ResultVar → List TV → Prop
  | [], [] => True
  | r :: rs, t :: ts => resOne E T S r t ∧ resAll E T S rs ts
  | _, _ => False

def tupT : List TV → TV
  | [t] => t
  | ts => .tup ts

def resF (tmps : Array Value) : ResultVar → Sem Value
  | .tmp i => pure (tmps.getD i undef)
  | .cell i ty => do loadVar ty (← asAddr (tmps.getD i undef))
theorem results_eq (fn : Func) (tmps : Array Value) : results fn tmps = (do let vs ← fn.results.mapM (resF tmps); pure (if h : vs.size = 1 then vs[0] else .tuple vs)) := by
  unfold results
  refine congrArg (fun f => (do let vs ← Array.mapM f fn.results; pure (if h : vs.size = 1 then vs[0] else .tuple vs) : Sem Value)) ?_
  funext r
  cases r <;> rfl

theorem resOne_ok {E : Env} {w0 : World} {c : Cx} {S : TS} {w : World} {T : Nat → TV} {a : Act} {r : ResultVar} {t : TV} (hk : Ok E w0 c S w) (ht : Tmps c w T a) (hi : resInb a.tmps.size r = true) (h : resOne E T S r t) :
    ∃ v, (resF a.tmps r).run E.P w = .ok v w ∧ RdT c w t v := by
  cases r with
  | tmp i =>
    simp only [resOne] at h
    subst h
    have hlt : i < a.tmps.size := by simpa [resInb] using hi
    have hv : a.tmps[i]? = some (a.tmps.getD i undef) := by simp [Array.getElem?_eq_getElem hlt]
    exact ⟨_, rfl, ht i _ hv⟩
  | cell i ty =>
    obtain ⟨id, off, e, cs, inf, h1, h2, h3, h4⟩ := h
    have hlt : i < a.tmps.size := by simpa [resInb] using hi
    have hv : a.tmps[i]? = some (a.tmps.getD i undef) := by simp [Array.getElem?_eq_getElem hlt]
    obtain ⟨o, hoo⟩ : ∃ o : Oper, o.op = .load ty (.tmp i) := ⟨{ dst := none, op := .load ty (.tmp i), type := ty, pos := "", after := #[], guard := none }, rfl⟩
    have := q_loadP (E := E) (o := o) (T := T) (S := S) hoo h2 (by simpa [evO] using h1) h3 h4 w0 c w a hk (fun x hx => by
      rw [hoo] at hx
      change x ∈ [Operand.tmp i] at hx
      simp only [List.mem_singleton] at hx
      subst hx; exact by
        have hev : a.eval (.tmp i) = a.tmps.getD i undef := rfl
        rw [hev]; exact ht i _ hv)
    obtain ⟨u, hu, hr⟩ := this
    refine ⟨u, ?_, hr⟩
    have ha := ht i _ hv
    rw [h1] at ha
    have hev : a.eval (.tmp i) = a.tmps.getD i undef := rfl
    generalize hg : a.tmps.getD i undef = av at ha hev
    unfold execOp at hu
    rw [hoo] at hu
    simp only [hev] at hu
    cases ha with
    | ptr _ _ b z hγ =>
      change (do loadVar ty (← asAddr (a.tmps.getD i undef)) : Sem Value).run E.P w = _
      rw [hg]
      simp only [Sem.run_bind, asAddr, Sem.run_pure, Result.andThen_ok]
      simp only [Sem.run_bind, loadRun] at hu
      generalize (loadVar ty ⟨b, z.1 + off, none⟩).run E.P w = rr at hu ⊢
      cases rr with
      | ok x w' => simp at hu; obtain ⟨rfl, rfl⟩ := hu; rfl
      | halt x w' => simp at hu

theorem resAll_ok {E : Env} {w0 : World} {c : Cx} {S : TS} {w : World} {T : Nat → TV} {a : Act} (hk : Ok E w0 c S w) (ht : Tmps c w T a) : ∀ (rs : List ResultVar) (ts : List TV), rs.all (resInb a.tmps.size) = true → resAll E T S rs ts →
    ∃ vs : List Value, (rs.mapM (m := Sem) (resF a.tmps)).run E.P w = .ok vs w ∧ RdCells c w ts vs.toArray
  | [], [], _, _ => ⟨[], by simp, ⟨rfl, fun j t v h _ => by simp at h⟩⟩
  | [], _ :: _, _, h => h.elim
  | _ :: _, [], _, h => h.elim
  | r :: rs, t :: ts, hi, h => by
    simp only [List.all_cons, Bool.and_eq_true] at hi
    obtain ⟨v, h1, h2⟩ := resOne_ok hk ht hi.1 h.1
    obtain ⟨vs, h3, h4⟩ := resAll_ok hk ht rs ts hi.2 h.2
    refine ⟨v :: vs, ?_, ⟨by have := h4.size; simpa using this, fun j t' u a1 a2 => ?_⟩⟩
    · simp only [List.mapM_cons, Sem.run_bind, h1, Result.andThen_ok, h3, Sem.run_pure]
    · cases j with
      | zero => simp at a1 a2; subst a1 a2; exact h2
      | succ j => exact h4.rd j t' u (by simpa using a1) (by simpa using a2)

theorem TCall.of_body {E : Env} {f : FuncId} {fn : Func} {body : Code} {args : List TV} {S : TS} {R : TV → TS → Prop} {N : Nat} (hf : E.P.funcs[f]? = some fn) (hb : fn.body = some body) (hname : (fn.name == "runtime.NumGoroutine") = false)
    (hN : args.length + (fn.ntmps - args.length) = N) (hin : codeInb N body = true) (hres : fn.results.toList.all (resInb N) = true)
    (h : TWp E N body (fun e T S' => (e = .normal ∨ e = .ret) ∧ ∃ ts, resAll E T S' fn.results.toList ts ∧ R (tupT ts) S') (argsT args) S) : TCall E f args S R := by
  refine ⟨ent_of hf (by rw [hb]; rfl) hname, fun w0 c w vs hk hrd => ?_⟩
  refine calls_of_wp hf hb ?_
  have hsz : (vs ++ Array.replicate (fn.ntmps - vs.size) undef).size = N := by simp [hrd.size, hN]
  have ht : Tmps c w (argsT args) { tmps := vs ++ Array.replicate (fn.ntmps - vs.size) undef, defers := [] } := by
    intro i v hv
    simp only [Array.getElem?_append] at hv
    unfold argsT
    split at hv
    · rename_i hi
      have hlt : i < args.length := by rw [← hrd.size]; exact hi
      rw [List.getElem?_eq_getElem hlt]
      exact hrd.rd i _ v (List.getElem?_eq_getElem hlt) hv
    · rename_i hi
      rw [List.getElem?_eq_none (by rw [← hrd.size]; omega)]
      exact .unk _
  refine wp_mono (h hin w0 c w _ hk ht hsz) ?_
  rintro e a' w' ⟨T', S', c', h1, h2, h3, h4, h5, h6, ts, h7, h8⟩
  have key : a'.defers = [] ∧ ∃ v, (results fn a'.tmps).run E.P w' = .ok v w' ∧ (∃ v', (Ending.returned v) = .returned v' ∧ Fin E w0 c w R v' w') := by
    refine ⟨h5, ?_⟩
    obtain ⟨us, g1, g2⟩ := resAll_ok h1 h3 fn.results.toList ts (by rw [h4]; exact hres) h7
    have hm : (fn.results.mapM (m := Sem) (resF a'.tmps)).run E.P w' = .ok us.toArray w' := by
      rw [Array.mapM_eq_mapM_toList]
      simp only [Sem.run_map, g1, Result.andThen_ok]
    have hlen := g2.size
    simp at hlen
    rw [results_eq]
    match us, ts, hlen, g1, g2, h7, h8, hm with
    | [u], [t], _, g1, g2, h7, h8, hm =>
      refine ⟨u, ?_, u, rfl, t, c', S', h1, h2, g2.rd 0 t u (by simp) (by simp), h8⟩
      simp only [Sem.run_bind, hm, Result.andThen_ok, Sem.run_pure]
      rfl
    | [], [], _, g1, g2, h7, h8, hm =>
      refine ⟨.tuple #[], ?_, _, rfl, .tup [], c', S', h1, h2, .tup _ _ rfl (fun j t v h _ => by simp at h), h8⟩
      simp only [Sem.run_bind, hm, Result.andThen_ok, Sem.run_pure]
      rfl
    | u :: u2 :: us, t :: t2 :: ts, _, g1, g2, h7, h8, hm =>
      refine ⟨.tuple (u :: u2 :: us).toArray, ?_, _, rfl, .tup (t :: t2 :: ts), c', S', h1, h2, .tup _ _ g2.size g2.rd, h8⟩
      simp only [Sem.run_bind, hm, Result.andThen_ok, Sem.run_pure]
      rw [dif_neg (by simp)]
  rcases h6 with rfl | rfl
  · exact key
  · exact key
end Go.Proofs.YteafcknljhglkaaDoor.TL
