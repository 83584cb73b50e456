/-
  Lemmas of the claim, part 2: TlM TlN TlO TlOa TlP TlQ TlR TlS TlT TlU TlV TlX TlW.
-/
import Derived.Test.YtlljknmojafkoaaGreatDoorMla
import Derived.Orders
import Derived.Laws.Strings
import Derived.ProofKit
import Derived.OpenShut
import Derived.ShutString
import Derived.ChangeOld
import Derived.Below
import Derived.SizedLaws
import Derived.LaidMore
import Derived.Stop.Joined
set_option linter.unusedVariables false
set_option linter.unusedSimpArgs false
namespace Go.Proofs.YtlljknmojafkoaaGreatDoor.TL
open Go.RowKit
def Ent (P : Program) (f : FuncId) : Prop := ∀ args w, (callFunc f args).run P w = .ok (.enter f args) w
theorem ent_of {P : Program} {f : FuncId} {fn : Func} (hf : P.funcs[f]? = some fn) (hb : fn.body.isNone = false) (hn : (fn.name == "runtime.NumGoroutine") = false) : Ent P f := by
  intro args w
  unfold callFunc
  simp only [Sem.run_bind, run_program, Result.andThen_ok, hf, hn, Bool.false_eq_true, if_false, hb, Sem.run_pure]
/-- Called with these values, f returns: entered and walked, or (a function without a body) answered at once. -/
def FCall (P : Program) (f : FuncId) (vs : Array Value) (w : World) (Q : Value → World → Prop) : Prop :=
  (Ent P f ∧ Calls P f vs w fun e w' => ∃ v, e = .returned v ∧ Q v w') ∨ ∃ v w', (callFunc f vs).run P w = .ok (.value v) w' ∧ Q v w'
theorem FCall.mono {P : Program} {f : FuncId} {vs : Array Value} {w : World} {Q Q' : Value → World → Prop} (h : FCall P f vs w Q) (hq : ∀ v w', Q v w' → Q' v w') : FCall P f vs w Q' := by
  rcases h with ⟨h1, h2⟩ | ⟨v, w', h1, h2⟩
  · exact .inl ⟨h1, h2.mono fun e w' ⟨v, he, hf⟩ => ⟨v, he, hq v w' hf⟩⟩
  · exact .inr ⟨v, w', h1, hq v w' h2⟩
theorem FCall.calls {P : Program} {f : FuncId} {vs : Array Value} {w : World} {Q : Value → World → Prop} (he : Ent P f) (h : FCall P f vs w Q) : Calls P f vs w fun e w' => ∃ v, e = .returned v ∧ Q v w' := by
  rcases h with ⟨_, h2⟩ | ⟨v, w', h1, _⟩
  · exact h2
  · rw [he vs w] at h1; simp at h1
/-- Called with these arguments in this state, f returns, and R holds of its result and of the state behind it. -/
def TCall (E : Env) (f : FuncId) (args : List TV) (S : TS) (R : TV → TS → Prop) : Prop :=
  ∀ w0 c w (vs : Array Value), Ok E w0 c S w → RdCells c w args vs → FCall E.P f vs w (Fin E w0 c w R)
theorem Fin.mono {E : Env} {w0 : World} {c : Cx} {w : World} {R R' : TV → TS → Prop} {v : Value} {w' : World} (h : Fin E w0 c w R v w') (hr : ∀ t S, R t S → R' t S) : Fin E w0 c w R' v w' :=
  let ⟨t, c', S', a, b, d, e⟩ := h
  ⟨t, c', S', a, b, d, hr _ _ e⟩
theorem TCall.mono {E : Env} {f : FuncId} {args : List TV} {S : TS} {R R' : TV → TS → Prop} (h : TCall E f args S R) (hr : ∀ t S, R t S → R' t S) : TCall E f args S R' :=
  fun w0 c w vs hk hv => (h w0 c w vs hk hv).mono fun v w' hf => hf.mono hr
theorem e_call {E : Env} {o : Oper} {T : Nat → TV} {S : TS} {f : Operand} {args : Array Operand} {ty : Array TypeId} (ho : o.op = .call { callee := .value f, args, argTypes := ty }) {g : FuncId} {first cap : List TV} {K : TV → TS → Prop}
    (hf : evO E T f = .fn (.func g) first cap) (h : TCall E g (first ++ args.toList.map (evO E T) ++ cap) S K) : ESem E o T S K := by
  intro w0 c w a hk hop next Q hn
  rw [ho] at hop
  have h1 := hop f (by simp [Op.operands, Call.operands])
  rw [hf] at h1
  generalize hv : a.eval f = v at h1
  cases h1 with
  | fn _ _ _ vs ws k1 k2 k3 k4 =>
    have hrd : RdCells c w (first ++ args.toList.map (evO E T) ++ cap) (vs ++ args.map a.eval ++ ws) := by
      refine ⟨by simp [k1, k2], fun j t u a1 a2 => ?_⟩
      rw [Array.getElem?_append] at a2
      rw [List.getElem?_append] at a1
      simp only [List.length_append, List.length_map, Array.length_toList, Array.size_append, Array.size_map, k1] at a1 a2
      split at a1
      · rename_i hj
        rw [if_pos hj] at a2
        rw [Array.getElem?_append] at a2
        rw [List.getElem?_append] at a1
        rw [k1] at a2
        split at a1
        · rename_i hj2
          rw [if_pos hj2] at a2
          exact k3 j t u a1 a2
        · rename_i hj2
          rw [if_neg hj2] at a2
          rw [List.getElem?_map] at a1
          obtain ⟨x, hx, rfl⟩ := Option.map_eq_some_iff.1 a1
          rw [Array.getElem?_map, ← Array.getElem?_toList, hx] at a2
          simp only [Option.map_some, Option.some.injEq] at a2
          subst a2
          refine hop x ?_
          simp only [Op.operands, Call.operands, Array.toList_append, List.mem_append]
          exact .inr (List.mem_of_getElem? hx)
      · rename_i hj
        rw [if_neg hj] at a2
        exact k4 _ t u a1 a2
    have hex : (execOp a.eval o).run E.P w = (callFunc g (vs ++ args.map a.eval ++ ws)).run E.P w := by
      unfold execOp
      rw [ho]
      simp only [resolve, Sem.run_bind, Result.andThen_ok, hv, Deferred.ofValue, Sem.run_pure, invoke]
    unfold Oper.wp
    rw [hex]
    rcases h w0 c w _ hk hrd with ⟨h1, h2⟩ | ⟨u, w', h1, h2⟩
    · rw [h1 _ w]
      simp only [Oper.upon]
      refine h2.mono fun e w' ⟨u, he, hfin⟩ => ?_
      subst he
      exact hn u w' hfin
    · rw [h1]
      simp only [Oper.upon]
      exact hn u w' h2
/-! ### code -/
def opInb (N : Nat) (o : Oper) : Bool := o.op.operands.toList.all (inb N)
def codeInb (N : Nat) : Code → Bool
  | .region _ ops _ => ops.toList.all (opInb N)
  | .seq a b => codeInb N a && codeInb N b
  | .cond c a b => inb N c && codeInb N a && codeInb N b
  | .block _ c => codeInb N c
  | .loop c => codeInb N c
  | _ => true
def Sto (E : Env) (w0 : World) (c : Cx) (w : World) (N : Nat) (ds : List Deferred) (Q : Exit → (Nat → TV) → TS → Prop) (e : Exit) (a' : Act) (w' : World) : Prop :=
  ∃ T' S' c', Ok E w0 c' S' w' ∧ Mono c w c' w' ∧ Tmps c' w' T' a' ∧ a'.tmps.size = N ∧ a'.defers = ds ∧ Q e T' S'
def TWp (E : Env) (N : Nat) (code : Code) (Q : Exit → (Nat → TV) → TS → Prop) (T : Nat → TV) (S : TS) : Prop :=
  codeInb N code = true → ∀ w0 c w a, Ok E w0 c S w → Tmps c w T a → a.tmps.size = N → code.wp E.P (Sto E w0 c w N a.defers Q) a w
theorem Sto.trans {E : Env} {w0 : World} {c c1 : Cx} {w w1 : World} {N : Nat} {ds : List Deferred} {Q : Exit → (Nat → TV) → TS → Prop} {e : Exit} {a' : Act} {w' : World} (m : Mono c w c1 w1) (h : Sto E w0 c1 w1 N ds Q e a' w') : Sto E w0 c w N ds Q e a' w' :=
  let ⟨T', S', c', h1, h2, h3⟩ := h
  ⟨T', S', c', h1, m.trans h2, h3⟩
theorem TWp.mono {E : Env} {N : Nat} {code : Code} {Q Q' : Exit → (Nat → TV) → TS → Prop} {T : Nat → TV} {S : TS} (h : TWp E N code Q T S) (hq : ∀ e T S, Q e T S → Q' e T S) : TWp E N code Q' T S :=
  fun hi w0 c w a hk ht hs => wp_mono (h hi w0 c w a hk ht hs) fun e a' w' ⟨T', S', c', h1, h2, h3, h4, h5, h6⟩ => ⟨T', S', c', h1, h2, h3, h4, h5, hq _ _ _ h6⟩
def thenT (next : (Nat → TV) → TS → Prop) (Q : Exit → (Nat → TV) → TS → Prop) : Exit → (Nat → TV) → TS → Prop
  | .normal, T, S => next T S
  | e, T, S => Q e T S
def blockT (id : Nat) (Q : Exit → (Nat → TV) → TS → Prop) : Exit → (Nat → TV) → TS → Prop
  | .exit id', T, S => if id' = id then Q .normal T S else Q (.exit id') T S
  | e, T, S => Q e T S
section
variable {E : Env} {N : Nat} {Q : Exit → (Nat → TV) → TS → Prop} {T : Nat → TV} {S : TS}
theorem TWp.skip (h : Q .normal T S) : TWp E N .skip Q T S := fun _ w0 c w a hk ht hs => wp_skip ⟨T, S, c, hk, Mono.refl c w, ht, hs, rfl, h⟩
theorem TWp.label {l : Nat} (h : Q .normal T S) : TWp E N (.label l) Q T S := fun _ w0 c w a hk ht hs => wp_label ⟨T, S, c, hk, Mono.refl c w, ht, hs, rfl, h⟩
theorem TWp.exit {id : Nat} (h : Q (.exit id) T S) : TWp E N (.exit id) Q T S := fun _ w0 c w a hk ht hs => wp_exit ⟨T, S, c, hk, Mono.refl c w, ht, hs, rfl, h⟩
theorem TWp.ret (h : Q .ret T S) : TWp E N .ret Q T S := fun _ w0 c w a hk ht hs => wp_ret ⟨T, S, c, hk, Mono.refl c w, ht, hs, rfl, h⟩
theorem TWp.seq {x y : Code} (h : TWp E N x (thenT (fun T S => TWp E N y Q T S) Q) T S) : TWp E N (.seq x y) Q T S := by
  intro hi w0 c w a hk ht hs
  simp only [codeInb, Bool.and_eq_true] at hi
  refine wp_seq (wp_mono (h hi.1 w0 c w a hk ht hs) ?_)
  rintro e a' w' ⟨T', S', c', h1, h2, h3, h4, h5, h6⟩
  cases e with
  | normal =>
    refine wp_mono (h6 hi.2 w0 c' w' a' h1 h3 h4) ?_
    rintro e a2 w2 hq
    rw [h5] at hq
    exact hq.trans h2
  | _ => exact ⟨T', S', c', h1, h2, h3, h4, h5, h6⟩
theorem TWp.cond {o : Operand} {x y : Code} {b : Bool} (hc : evO E T o = .lit (.bool b)) (ht : b = true → TWp E N x Q T S) (hf : b = false → TWp E N y Q T S) : TWp E N (.cond o x y) Q T S := by
  intro hi w0 c w a hk htm hs
  simp only [codeInb, Bool.and_eq_true] at hi
  have h1 := evO_ok hk htm o (by rw [hs]; exact hi.1.1)
  rw [hc] at h1
  refine wp_cond_split h1.lit_inv (fun hb => ht hb hi.1.2 w0 c w a hk htm hs) (fun hb => hf hb hi.2 w0 c w a hk htm hs)
theorem TWp.block {id : Nat} {x : Code} (h : TWp E N x (blockT id Q) T S) : TWp E N (.block id x) Q T S := by
  intro hi w0 c w a hk ht hs
  refine wp_block (wp_mono (h hi w0 c w a hk ht hs) ?_)
  rintro e a' w' ⟨T', S', c', h1, h2, h3, h4, h5, h6⟩
  cases e with
  | exit id' =>
    simp only [blockT] at h6
    simp only [Exit.inBlock]
    split
    · rename_i hid; rw [if_pos hid] at h6; exact ⟨T', S', c', h1, h2, h3, h4, h5, h6⟩
    · rename_i hid; rw [if_neg hid] at h6; exact ⟨T', S', c', h1, h2, h3, h4, h5, h6⟩
  | _ => exact ⟨T', S', c', h1, h2, h3, h4, h5, h6⟩
/-- A loop: an invariant that bears a number, which each round lowers. -/
theorem TWp.loop {x : Code} (I : Nat → (Nat → TV) → TS → Prop) (n : Nat) (h0 : I n T S)
    (round : ∀ n T S, I n T S → TWp E N x (thenT (fun T' S' => ∃ m, m < n ∧ I m T' S') Q) T S) : TWp E N (.loop x) Q T S := by
  intro hi w0 c w a hk ht hs
  refine wp_loop_ghost (fun k a' w' => ∃ T' S' c', Ok E w0 c' S' w' ∧ Mono c w c' w' ∧ Tmps c' w' T' a' ∧ a'.tmps.size = N ∧ a'.defers = a.defers ∧ I k T' S') n ⟨T, S, c, hk, Mono.refl c w, ht, hs, rfl, h0⟩ ?_
  rintro k a1 w1 ⟨T1, S1, c1, h1, h2, h3, h4, h5, h6⟩
  refine wp_mono (round k T1 S1 h6 hi w0 c1 w1 a1 h1 h3 h4) ?_
  rintro e a' w' ⟨T', S', c', g1, g2, g3, g4, g5, g6⟩
  rw [h5] at g5
  cases e with
  | normal =>
    obtain ⟨m, hm, hI⟩ := g6
    exact ⟨m, hm, T', S', c', g1, h2.trans g2, g3, g4, g5, hI⟩
  | _ => exact ⟨T', S', c', g1, h2.trans g2, g3, g4, g5, g6⟩
end
/-! ### regions whose order is the text's -/
theorem Tmps.put {c : Cx} {w : World} {T : Nat → TV} {a : Act} (h : Tmps c w T a) {dst : Option Nat} {t : TV} {v : Value} (hr : RdT c w t v) : Tmps c w (putT T dst t) (a.put dst v) := by
  cases dst with
  | none => exact h
  | some d =>
    intro i u hu
    simp only [Act.put, Array.getElem?_setIfInBounds] at hu
    simp only [putT, upd]
    by_cases hi : d = i
    · rw [if_pos hi] at hu
      rw [if_pos hi.symm]
      split at hu
      · injection hu with hu; subst hu; exact hr
      · cases hu
    · rw [if_neg hi] at hu
      rw [if_neg (fun hh => hi hh.symm)]
      exact h i u hu
theorem put_size (a : Act) (dst : Option Nat) (v : Value) : (a.put dst v).tmps.size = a.tmps.size := by cases dst <;> simp [Act.put]
theorem put_defers' (a : Act) (dst : Option Nat) (v : Value) : (a.put dst v).defers = a.defers := by cases dst <;> rfl
def TOps (E : Env) (N : Nat) (ops : Array Oper) (l : List Oper) (K : (Nat → TV) → TS → Prop) (T : Nat → TV) (S : TS) : Prop :=
  l.all (opInb N) = true → ∀ w0 c w a, Ok E w0 c S w → Tmps c w T a → a.tmps.size = N → wpList E.P ops (Sto E w0 c w N a.defers fun e T S => e = .normal ∧ K T S) l a w
theorem wpList_mono {P : Program} {ops : Array Oper} {Q Q' : Exit → Act → World → Prop} (hq : ∀ e a w, Q e a w → Q' e a w) : ∀ (l : List Oper) (a : Act) (w : World), wpList P ops Q l a w → wpList P ops Q' l a w
  | [], a, w, h => hq _ _ _ h
  | o :: l, a, w, h => by
    unfold wpList at h ⊢
    split
    · rename_i hw
      rw [if_pos hw] at h
      rcases h with h | ⟨h1, a0, w1, h2⟩
      · left
        unfold Oper.wp at h ⊢
        generalize (execOp a.eval o).run P w = r at *
        cases r with
        | ok n w' =>
          cases n <;> simp only [Oper.upon] at h ⊢ <;> first
            | exact wpList_mono hq l _ _ h
            | exact Calls.mono h (fun e w'' he => by
                cases e with
                | returned v => exact wpList_mono hq l _ _ he
                | panicked ch => exact hq _ _ _ he
                | outgrown => obtain ⟨a0, w1, h2⟩ := he; exact ⟨a0, w1, hq _ _ _ h2⟩)
            | exact Rows.mono h (fun _ _ he => wpList_mono hq l _ _ he)
        | halt x w' => cases x <;> simp only [Oper.upon] at h ⊢ <;> first | exact hq _ _ _ h | exact h
      · exact .inr ⟨h1, a0, w1, hq _ _ _ h2⟩
    · rename_i hw
      rw [if_neg hw] at h
      exact wpList_mono hq l _ _ h
theorem TOps.nil {E : Env} {N : Nat} {ops : Array Oper} {K : (Nat → TV) → TS → Prop} {T : Nat → TV} {S : TS} (h : K T S) : TOps E N ops [] K T S :=
  fun _ w0 c w a hk ht hs => ⟨T, S, c, hk, Mono.refl c w, ht, hs, rfl, rfl, h⟩
theorem TOps.step {E : Env} {N : Nat} {ops : Array Oper} {o : Oper} {l : List Oper} {K : (Nat → TV) → TS → Prop} {T : Nat → TV} {S : TS} (hg : o.guard = none)
    (h : ESem E o T S fun t S' => TOps E N ops l K (putT T o.dst t) S') : TOps E N ops (o :: l) K T S := by
  intro hi w0 c w a hk ht hs
  simp only [List.all_cons, Bool.and_eq_true] at hi
  unfold wpList
  rw [if_pos (by simp [Region.wanted, hg])]
  left
  refine h w0 c w a hk (opn_of hk ht o.op (by rw [hs]; exact hi.1)) _ _ ?_
  rintro v w' ⟨t, c', S', h1, h2, h3, h4⟩
  have := h4 hi.2 w0 c' w' (a.put o.dst v) h1 ((ht.step h2).put h3) (by rw [put_size, hs])
  rw [put_defers'] at this
  exact wpList_mono (fun e a' w' hq => hq.trans h2) _ _ _ this
def bOf : Value → Option Bool
  | .bool b => some b
  | _ => none
/-- An operation behind a guard. -/
theorem TOps.guarded {E : Env} {N : Nat} {ops : Array Oper} {o : Oper} {l : List Oper} {K : (Nat → TV) → TS → Prop} {T : Nat → TV} {S : TS} {j d : Nat} {want : Bool} {b : Value} (hg : o.guard = some (j, want)) (hd : (ops[j]?).bind (·.dst) = some d) (hb : T d = .lit b) (hN : d < N)
    (h1 : bOf b = some want → ESem E o T S fun t S' => TOps E N ops l K (putT T o.dst t) S') (h2 : bOf b ≠ some want → TOps E N ops l K (putT T o.dst (.lit undef)) S) : TOps E N ops (o :: l) K T S := by
  intro hi w0 c w a hk ht hs
  simp only [List.all_cons, Bool.and_eq_true] at hi
  have hy : yielded ops a.tmps j = bOf b := by
    unfold yielded
    rw [hd]
    have hlt : d < a.tmps.size := by omega
    have hv : a.tmps[d]? = some a.tmps[d] := Array.getElem?_eq_getElem hlt
    have := ht d _ hv
    rw [hb] at this
    simp only [Option.bind_some, hv, this.lit_inv]
    cases b <;> rfl
  unfold wpList
  by_cases hbw : bOf b = some want
  · rw [if_pos (by simp [Region.wanted, hg, hy, hbw])]
    left
    refine h1 hbw w0 c w a hk (opn_of hk ht o.op (by rw [hs]; exact hi.1)) _ _ ?_
    rintro v w' ⟨t, c', S', k1, k2, k3, k4⟩
    have := k4 hi.2 w0 c' w' (a.put o.dst v) k1 ((ht.step k2).put k3) (by rw [put_size, hs])
    rw [put_defers'] at this
    exact wpList_mono (fun e a' w' hq => hq.trans k2) _ _ _ this
  · rw [if_neg (by simp [Region.wanted, hg, hy, hbw])]
    have := h2 hbw hi.2 w0 c w (a.put o.dst undef) hk (ht.put (.lit _)) (by rw [put_size, hs])
    rw [put_defers'] at this
    exact this
theorem TWp.region {E : Env} {N : Nat} {id : Nat} {ops : Array Oper} {Q : Exit → (Nat → TV) → TS → Prop} {T : Nat → TV} {S : TS} (h : TOps E N ops ops.toList (fun T S => Q .normal T S) T S) : TWp E N (.region id ops false) Q T S := by
  intro hi w0 c w a hk ht hs
  refine wp_region_list (wpList_mono ?_ _ _ _ (h hi w0 c w a hk ht hs))
  rintro e a' w' ⟨T', S', c', h1, h2, h3, h4, h5, rfl, h6⟩
  exact ⟨T', S', c', h1, h2, h3, h4, h5, h6⟩
/-! ### a function -/
def argsT (args : List TV) : Nat → TV := fun i => (args[i]?).getD .unk
/-- One result out of its place. -/
def resOne (E : Env) (T : Nat → TV) (S : TS) (r : ResultVar) (t : TV) : Prop :=
  match r with
  | .tmp i => t = T i
  | .cell i ty => ∃ (id off e : Nat) (cs : List TV) (inf : TI), T i = .ptr id off ∧ tiOf E.P ty = some inf ∧ S.objs id = .cells e cs ∧ (if isAggD inf.desc then off + inf.size ≤ cs.length ∧ t = .agg ((cs.drop off).take inf.size) else cs[off]? = some t)
def resInb (N : Nat) : ResultVar → Bool
  | .tmp i => decide (i < N)
  | .cell i _ => decide (i < N)
def resAll (E : Env) (T : Nat → TV) (S : TS) : List ResultVar → List TV → Prop
  | [], [] => True
  | r :: rs, t :: ts => resOne E T S r t ∧ resAll E T S rs ts
  | _, _ => False
def tupT : List TV → TV
  | [t] => t
  | ts => .tup ts
def resF (tmps : Array Value) : ResultVar → Sem Value
  | .tmp i => pure (tmps.getD i undef)
  | .cell i ty => do loadVar ty (← asAddr (tmps.getD i undef))
theorem results_eq (fn : Func) (tmps : Array Value) : results fn tmps = (do let vs ← fn.results.mapM (resF tmps); pure (if h : vs.size = 1 then vs[0] else .tuple vs)) := by
  unfold results
  refine congrArg (fun f => (do let vs ← Array.mapM f fn.results; pure (if h : vs.size = 1 then vs[0] else .tuple vs) : Sem Value)) ?_
  funext r
  cases r <;> rfl
theorem resOne_ok {E : Env} {w0 : World} {c : Cx} {S : TS} {w : World} {T : Nat → TV} {a : Act} {r : ResultVar} {t : TV} (hk : Ok E w0 c S w) (ht : Tmps c w T a) (hi : resInb a.tmps.size r = true) (h : resOne E T S r t) :
    ∃ v, (resF a.tmps r).run E.P w = .ok v w ∧ RdT c w t v := by
  cases r with
  | tmp i =>
    simp only [resOne] at h
    subst h
    have hlt : i < a.tmps.size := by simpa [resInb] using hi
    have hv : a.tmps[i]? = some (a.tmps.getD i undef) := by simp [Array.getElem?_eq_getElem hlt]
    exact ⟨_, rfl, ht i _ hv⟩
  | cell i ty =>
    obtain ⟨id, off, e, cs, inf, h1, h2, h3, h4⟩ := h
    have hlt : i < a.tmps.size := by simpa [resInb] using hi
    have hv : a.tmps[i]? = some (a.tmps.getD i undef) := by simp [Array.getElem?_eq_getElem hlt]
    obtain ⟨o, hoo⟩ : ∃ o : Oper, o.op = .load ty (.tmp i) := ⟨{ dst := none, op := .load ty (.tmp i), type := ty, pos := "", after := #[], guard := none }, rfl⟩
    have := q_loadP (E := E) (o := o) (T := T) (S := S) hoo h2 (by simpa [evO] using h1) h3 h4 w0 c w a hk (fun x hx => by
      rw [hoo] at hx
      change x ∈ [Operand.tmp i] at hx
      simp only [List.mem_singleton] at hx
      subst hx; exact by
        have hev : a.eval (.tmp i) = a.tmps.getD i undef := rfl
        rw [hev]; exact ht i _ hv)
    obtain ⟨u, hu, hr⟩ := this
    refine ⟨u, ?_, hr⟩
    have ha := ht i _ hv
    rw [h1] at ha
    have hev : a.eval (.tmp i) = a.tmps.getD i undef := rfl
    generalize hg : a.tmps.getD i undef = av at ha hev
    unfold execOp at hu
    rw [hoo] at hu
    simp only [hev] at hu
    cases ha with
    | ptr _ _ b z hγ =>
      change (do loadVar ty (← asAddr (a.tmps.getD i undef)) : Sem Value).run E.P w = _
      rw [hg]
      simp only [Sem.run_bind, asAddr, Sem.run_pure, Result.andThen_ok]
      simp only [Sem.run_bind, loadRun] at hu
      generalize (loadVar ty ⟨b, z.1 + off, none⟩).run E.P w = rr at hu ⊢
      cases rr with
      | ok x w' => simp at hu; obtain ⟨rfl, rfl⟩ := hu; rfl
      | halt x w' => simp at hu
theorem resAll_ok {E : Env} {w0 : World} {c : Cx} {S : TS} {w : World} {T : Nat → TV} {a : Act} (hk : Ok E w0 c S w) (ht : Tmps c w T a) : ∀ (rs : List ResultVar) (ts : List TV), rs.all (resInb a.tmps.size) = true → resAll E T S rs ts →
    ∃ vs : List Value, (rs.mapM (m := Sem) (resF a.tmps)).run E.P w = .ok vs w ∧ RdCells c w ts vs.toArray
  | [], [], _, _ => ⟨[], by simp, ⟨rfl, fun j t v h _ => by simp at h⟩⟩
  | [], _ :: _, _, h => h.elim
  | _ :: _, [], _, h => h.elim
  | r :: rs, t :: ts, hi, h => by
    simp only [List.all_cons, Bool.and_eq_true] at hi
    obtain ⟨v, h1, h2⟩ := resOne_ok hk ht hi.1 h.1
    obtain ⟨vs, h3, h4⟩ := resAll_ok hk ht rs ts hi.2 h.2
    refine ⟨v :: vs, ?_, ⟨by have := h4.size; simpa using this, fun j t' u a1 a2 => ?_⟩⟩
    · simp only [List.mapM_cons, Sem.run_bind, h1, Result.andThen_ok, h3, Sem.run_pure]
    · cases j with
      | zero => simp at a1 a2; subst a1 a2; exact h2
      | succ j => exact h4.rd j t' u (by simpa using a1) (by simpa using a2)
theorem TCall.of_body {E : Env} {f : FuncId} {fn : Func} {body : Code} {args : List TV} {S : TS} {R : TV → TS → Prop} {N : Nat} (hf : E.P.funcs[f]? = some fn) (hb : fn.body = some body) (hname : (fn.name == "runtime.NumGoroutine") = false)
    (hN : args.length + (fn.ntmps - args.length) = N) (hin : codeInb N body = true) (hres : fn.results.toList.all (resInb N) = true)
    (h : TWp E N body (fun e T S' => (e = .normal ∨ e = .ret) ∧ ∃ ts, resAll E T S' fn.results.toList ts ∧ R (tupT ts) S') (argsT args) S) : TCall E f args S R := by
  intro w0 c w vs hk hrd
  refine .inl ⟨ent_of hf (by rw [hb]; rfl) hname, ?_⟩
  refine calls_of_wp hf hb ?_
  have hsz : (vs ++ Array.replicate (fn.ntmps - vs.size) undef).size = N := by simp [hrd.size, hN]
  have ht : Tmps c w (argsT args) { tmps := vs ++ Array.replicate (fn.ntmps - vs.size) undef, defers := [] } := by
    intro i v hv
    simp only [Array.getElem?_append] at hv
    unfold argsT
    split at hv
    · rename_i hi
      have hlt : i < args.length := by rw [← hrd.size]; exact hi
      rw [List.getElem?_eq_getElem hlt]
      exact hrd.rd i _ v (List.getElem?_eq_getElem hlt) hv
    · rename_i hi
      rw [List.getElem?_eq_none (by rw [← hrd.size]; omega)]
      exact .unk _
  refine wp_mono (h hin w0 c w _ hk ht hsz) ?_
  rintro e a' w' ⟨T', S', c', h1, h2, h3, h4, h5, h6, ts, h7, h8⟩
  have key : a'.defers = [] ∧ ∃ v, (results fn a'.tmps).run E.P w' = .ok v w' ∧ (∃ v', (Ending.returned v) = .returned v' ∧ Fin E w0 c w R v' w') := by
    refine ⟨h5, ?_⟩
    obtain ⟨us, g1, g2⟩ := resAll_ok h1 h3 fn.results.toList ts (by rw [h4]; exact hres) h7
    have hm : (fn.results.mapM (m := Sem) (resF a'.tmps)).run E.P w' = .ok us.toArray w' := by
      rw [Array.mapM_eq_mapM_toList]
      simp only [Sem.run_map, g1, Result.andThen_ok]
    have hlen := g2.size
    simp at hlen
    rw [results_eq]
    match us, ts, hlen, g1, g2, h7, h8, hm with
    | [u], [t], _, g1, g2, h7, h8, hm =>
      refine ⟨u, ?_, u, rfl, t, c', S', h1, h2, g2.rd 0 t u (by simp) (by simp), h8⟩
      simp only [Sem.run_bind, hm, Result.andThen_ok, Sem.run_pure]
      rfl
    | [], [], _, g1, g2, h7, h8, hm =>
      refine ⟨.tuple #[], ?_, _, rfl, .tup [], c', S', h1, h2, .tup _ _ rfl (fun j t v h _ => by simp at h), h8⟩
      simp only [Sem.run_bind, hm, Result.andThen_ok, Sem.run_pure]
      rfl
    | u :: u2 :: us, t :: t2 :: ts, _, g1, g2, h7, h8, hm =>
      refine ⟨.tuple (u :: u2 :: us).toArray, ?_, _, rfl, .tup (t :: t2 :: ts), c', S', h1, h2, .tup _ _ g2.size g2.rd, h8⟩
      simp only [Sem.run_bind, hm, Result.andThen_ok, Sem.run_pure]
      rw [dif_neg (by simp)]
  rcases h6 with rfl | rfl
  · exact key
  · exact key
end Go.Proofs.YtlljknmojafkoaaGreatDoor.TL
namespace Go.Proofs.YtlljknmojafkoaaGreatDoor.TL
open Go.RowKit
def wfS (S : TS) : Prop := ∀ id, S.n ≤ id → S.objs id = .gone
def Keep (S S' : TS) : Prop := S.n ≤ S'.n ∧ ∀ id, id < S.n → S'.objs id = S.objs id
theorem Keep.refl (S : TS) : Keep S S := ⟨Nat.le_refl _, fun _ _ => rfl⟩
theorem Keep.trans {S S1 S2 : TS} (h : Keep S S1) (k : Keep S1 S2) : Keep S S2 := ⟨Nat.le_trans h.1 k.1, fun id hi => (k.2 id (Nat.lt_of_lt_of_le hi h.1)).trans (h.2 id hi)⟩
theorem Keep.push (S : TS) (o : TObj) : Keep S (S.push o) := ⟨Nat.le_succ _, fun id hi => by rw [TS.push_objs, if_neg (by omega)]⟩
theorem Keep.obj {S S' : TS} (h : Keep S S') (hw : wfS S) {id : Nat} {o : TObj} (ho : S.objs id = o) (hl : o.live = true) : S'.objs id = o := by
  rcases Nat.lt_or_ge id S.n with h1 | h1
  · rw [h.2 id h1, ho]
  · rw [hw id h1] at ho; subst ho; cases hl
/-- .. or it is a row that may no more be appended to. -/
def KpL (S S' : TS) : Prop := S.n ≤ S'.n ∧ ∀ id, id < S.n → S'.objs id = S.objs id ∨ (S.objs id = .lin ∧ S'.objs id = .gone)
theorem KpL.of {S S' : TS} (h : Keep S S') : KpL S S' := ⟨h.1, fun id hi => .inl (h.2 id hi)⟩
theorem KpL.refl (S : TS) : KpL S S := .of (.refl S)
theorem KpL.trans {S S1 S2 : TS} (h : KpL S S1) (k : KpL S1 S2) : KpL S S2 := ⟨Nat.le_trans h.1 k.1, fun id hi => by
  rcases h.2 id hi with h1 | ⟨h1, h2⟩
  · rcases k.2 id (Nat.lt_of_lt_of_le hi h.1) with k1 | ⟨k1, k2⟩
    · exact .inl (k1.trans h1)
    · exact .inr ⟨h1 ▸ k1, k2⟩
  · rcases k.2 id (Nat.lt_of_lt_of_le hi h.1) with k1 | ⟨k1, k2⟩
    · exact .inr ⟨h1, k1.trans h2⟩
    · rw [h2] at k1; cases k1⟩
theorem KpL.obj {S S' : TS} (h : KpL S S') (hw : wfS S) {id : Nat} {o : TObj} (ho : S.objs id = o) (hl : o.live = true) (hn : o ≠ .lin := by intro hh; cases hh) : S'.objs id = o := by
  have hi : id < S.n := by
    rcases Nat.lt_or_ge id S.n with h' | h'
    · exact h'
    · rw [hw id h'] at ho; subst ho; cases hl
  rcases h.2 id hi with h1 | ⟨h1, _⟩
  · rw [h1, ho]
  · exact absurd (ho.symm.trans h1) hn
theorem KpL.grow {S : TS} {k : Nat} (h : S.objs k = .lin) (o : TObj) : KpL S ((S.set k .gone).push o) := ⟨Nat.le_succ _, fun id hi => by
  rw [TS.push_objs, if_neg (show id ≠ (S.set k .gone).n from Nat.ne_of_lt hi), TS.set_objs]
  split
  · rename_i e; subst e; exact .inr ⟨h, rfl⟩
  · exact .inl rfl⟩
theorem KpL.push (S : TS) (o : TObj) : KpL S (S.push o) := .of (.push S o)
/-- Operations that look at no memory. -/
def pureOp : Op → Bool
  | .move _ | .assign _ | .pick .. | .binOp .. | .unOp .. | .fieldAddr .. | .field .. | .indexAddr .. | .index .. | .extract .. | .nilCheck _ | .makeFunc .. | .build .. | .alloc _ => true
  | _ => false
def QStab (E : Env) (o : Oper) (T : Nat → TV) (S : TS) (v : TV) : Prop := (∀ S', wfS S → KpL S S' → QSem E o T S' v) ∧ (pureOp o.op = true → ∀ S', QSem E o T S' v)
theorem QStab.of {E : Env} {o : Oper} {T : Nat → TV} {S : TS} {v : TV} (h : ∀ S', QSem E o T S' v) : QStab E o T S v := ⟨fun S' _ _ => h S', fun _ => h⟩
/-- A variable's value, loaded. -/
def loadT (P : Program) (S : TS) (t : TypeId) (x : TV) (K : TV → Prop) : Prop :=
  match tiOf P t with
  | none => False
  | some i =>
    match x with
    | .ptr id off =>
      match S.objs id with
      | .cells _ cs => if isAggD i.desc = true then off + i.size ≤ cs.length ∧ K (.agg ((cs.drop off).take i.size)) else off < cs.length ∧ K (cs.getD off .unk)
      | _ => False
    | .eptr s d => isAggD i.desc = d.isAgg ∧ (d.isAgg = true → s = i.size) ∧ K (ofD d)
    | _ => False
def fieldT (P : Program) (t : TypeId) (f : Nat) (K : Field → TI → Prop) : Prop :=
  match tiOf P t with
  | some { desc := .struct fs, .. } =>
    match fs[f]? with
    | some fld => match tiOf P fld.type with | some j => K fld j | none => False
    | none => False
  | _ => False
/-- Comparisons with nil, and of truth values. -/
def isNilT : TV → Option Bool
  | .lit (.pointer none) | .lit (.map none) | .lit .nilFunc => some true
  | .ptr _ _ | .eptr _ _ | .mp _ | .fn _ _ _ => some false
  | _ => none
def viewB (P : Program) (t n : Nat) : Bool := P.cellsOf t != 0 && sameLayout P P.depth t t && P.depth != 0 && decide (P.cellsOf t ≤ n)
def quietT (E : Env) (o : Oper) (T : Nat → TV) (S : TS) (K : TV → Prop) : Prop :=
  match o.op with
  | .move x | .assign x => K (evO E T x)
  | .pick c x y => match evO E T c with
    | .lit (.bool b) => K (if b = true then evO E T x else evO E T y)
    | _ => False
  | .binOp op ty x y _ => match evO E T x, evO E T y with
    | .lit a, .lit b => match tvBin E.P op ty a b with
      | some r => K (.lit r)
      | none => match ptrTy E.P ty with
        | some m => match ptrEq m (.lit a) (.lit b) with
          | some r => isEq op = true ∧ K (.lit (.bool (nilB op r)))
          | none => False
        | none => False
    | u, v => match ptrTy E.P ty with
      | some m => match ptrEq m u v with
        | some r => isEq op = true ∧ K (.lit (.bool (nilB op r)))
        | none => False
      | none => False
  | .unOp op _ x => match evO E T x with
    | .lit a => match tvUn op a with
      | some r => K (.lit r)
      | none => False
    | _ => False
  | .convert s d x => match tiOf E.P s, tiOf E.P d with
    | some i, some j => match evO E T x with
      | .lit (.int _ n) => match j.desc with
        | .int k' => K (.lit (.int k' (k'.wrap n)))
        | .float k' => K (.lit (.float k' (k'.nearest n)))
        | _ => False
      | .lit (.string v) => match j.desc with
        | .string => K (.lit (.string v))
        | _ => False
      | .sl _ s xs => match i.desc with
        | .slice e => match tiOf E.P e with
          | some ie => s = 1 ∧ ie.desc = .int .u8 ∧ j.desc = .string ∧ (match unbytes xs with | some ns => K (.lit (.string (strOfNums ns))) | none => False)
          | none => False
        | _ => False
      | .vs id off s len => match i.desc with
        | .slice e => match tiOf E.P e, S.objs id with
          | some ie, .cells _ cs => s = 1 ∧ ie.desc = .int .u8 ∧ j.desc = .string ∧ off + len ≤ cs.length ∧ (match unbytesC ((cs.drop off).take len) with | some ns => K (.lit (.string (strOfNums ns))) | none => False)
          | _, _ => False
        | _ => False
      | .ptr id off => match i.desc, j.desc with
        | .pointer t, .unsafePointer => match tiOf E.P t, S.objs id with
          | some k, .cells _ cs => k.size ≠ 0 ∧ off < cs.length ∧ K (.ptr id off)
          | _, _ => False
        | .unsafePointer, .pointer t => match tiOf E.P t, S.objs id with
          | some _, .cells e cs => e = t ∧ off = 0 ∧ viewB E.P t cs.length = true ∧ K (.ptr id 0)
          | _, _ => False
        | _, _ => False
      | _ => False
    | _, _ => False
  | .makeInterface t x => match tiOf E.P t, evO E T x with
    | some i, .agg [] => isIfcD i.desc = false ∧ K (.lit (.iface t (.agg #[])))
    | _, _ => False
  | .load t x => loadT E.P S t (evO E T x) K
  | .fieldAddr t x f => fieldT E.P t f fun fld j => 0 < j.size ∧ (match evO E T x with
    | .ptr id off => K (.ptr id (off + fld.offset))
    | .eptr _ (.agg cs) => match partE (isAggD j.desc) cs fld.offset j.size with
      | some r => K r
      | none => False
    | _ => False)
  | .field t x f => fieldT E.P t f fun fld j => match evO E T x with
    | .agg cs => match partT (isAggD j.desc) cs fld.offset j.size with
      | some r => K r
      | none => False
    | _ => False
  | .indexAddr t x y => match evO E T y, tiOf E.P t with
    | .lit (.int _ m), some { desc := .array n e, .. } => match tiOf E.P e with
      | some j => 0 ≤ m ∧ m < n ∧ (match evO E T x with
        | .ptr id off => K (.ptr id (off + m.toNat * j.size))
        | .eptr _ (.agg cs) => match partE (isAggD j.desc) cs (m.toNat * j.size) j.size with
          | some r => K r
          | none => False
        | _ => False)
      | none => False
    | .lit (.int _ m), some { desc := .slice e, .. } => match tiOf E.P e with
      | some j => match evO E T x with
        | .sl _ s xs => 0 ≤ m ∧ m < xs.length ∧ s = j.size ∧ K (.eptr s (xs.getD m.toNat default))
        | .vs id off s len => 0 ≤ m ∧ m < len ∧ s = j.size ∧ K (.ptr id (off + m.toNat * s))
        | _ => False
      | none => False
    | _, _ => False
  | .index t x y => match evO E T y, tiOf E.P t with
    | .lit (.int _ m), some { desc := .array n e, .. } => match tiOf E.P e, evO E T x with
      | some j, .agg cs => 0 ≤ m ∧ m < n ∧ (match partT (isAggD j.desc) cs (m.toNat * j.size) j.size with
        | some r => K r
        | none => False)
      | _, _ => False
    | .lit (.int _ m), some { desc := .string, .. } => match evO E T x with
      | .lit (.string v) => 0 ≤ m ∧ m.toNat < v.size ∧ K (.lit (.int .u8 ((v.data[m.toNat]?).getD 0).toNat))
      | _ => False
    | _, _ => False
  | .slice t x lo hi mx => match intOfT (lo.map (evO E T)), intOfT (hi.map (evO E T)), intOfT (mx.map (evO E T)), tiOf E.P t with
    | some nl, some nh, some nm, some { desc := .slice e, .. } => match tiOf E.P e with
      | some j => match tvSlice j.size (evO E T x) nl nh nm with
        | some r => K r
        | none => False
      | none => False
    | some nl, some nh, some none, some { desc := .array n e, .. } => match tiOf E.P e, evO E T x with
      | some j, .ptr id off => match S.objs id with
        | .cells _ cs => mx = none ∧ off + n * j.size ≤ cs.length ∧ 0 ≤ nl.getD 0 ∧ nl.getD 0 ≤ nh.getD n ∧ nh.getD n ≤ n ∧ nl.getD 0 < n ∧ K (.vs id (off + (nl.getD 0).toNat * j.size) j.size ((nh.getD n).toNat - (nl.getD 0).toNat))
        | _ => False
      | _, _ => False
    | some nl, some nh, some none, some { desc := .string, .. } => match evO E T x with
      | .lit (.string v) => mx = none ∧ 0 ≤ nl.getD 0 ∧ nl.getD 0 ≤ nh.getD v.size ∧ nh.getD v.size ≤ v.size ∧ K (.lit (.string (v.extract (nl.getD 0).toNat (nh.getD v.size).toNat)))
      | _ => False
    | _, _, _, _ => False
  | .lookup t x y ok => match tiOf E.P t, evO E T y with
    | some { desc := .map kt et, .. }, .lit k => match tiOf E.P kt, tiOf E.P et with
      | some ik, some ie => match evO E T x with
        | .mp id => match S.objs id with
          | .map es _ => isKeyB ik.desc k = true ∧ keysOk ik.desc es = true ∧ K (lkT ok (lookT k es (ofConst ie.zero)) (findT k es).isSome)
          | _ => False
        | .lit (.map none) => isKeyB ik.desc k = true ∧ K (lkT ok (ofConst ie.zero) false)
        | _ => False
      | _, _ => False
    | _, _ => False
  | .extract x k => match evO E T x with
    | .tup ts => match ts[k]? with
      | some r => K r
      | none => False
    | _ => False
  | .nilCheck x => match evO E T x with
    | .ptr id off => K (.ptr id off)
    | .eptr s d => K (.eptr s d)
    | _ => False
  | .makeFunc f first cap => K (.fn f (first.toList.map (evO E T)) (cap.toList.map (evO E T)))
  | .build t ps => match tiOf E.P t with
    | some i => match i.desc with
      | .struct fs => match placesOf E.P fs.toList with
        | some pl => cellT (ofConst i.zero) = true ∧ (match fillT (pl[·]?) (cellsT (ofConst i.zero)) (partsT E T ps) with | some cs => K (.agg cs) | none => False)
        | none => False
      | _ => False
    | none => False
  | .call { callee := .builtin .len, args, argTypes } => match args.toList, argTypes.toList with
    | [x], [t] => match tiOf E.P t with
      | some i => match i.desc, evO E T x with
        | .slice _, .sl _ _ xs => K (.lit (.int .i64 xs.length))
        | .slice _, .vs _ _ _ len => K (.lit (.int .i64 len))
        | .string, .lit (.string v) => K (.lit (.int .i64 v.size))
        | .array k _, _ => K (.lit (.int .i64 k))
        | .map _ _, .lit (.map none) => K (.lit (.int .i64 (0 : Nat)))
        | .map _ _, .mp id => match S.objs id with
          | .map es _ => K (.lit (.int .i64 es.length))
          | _ => False
        | _, _ => False
      | none => False
    | _, _ => False
  | .call { callee := .builtin .max, args, .. } => match args.toList with
    | [x, y] => match evO E T x, evO E T y with
      | .lit (.int k a), .lit (.int _ b) => K (.lit (.int k (if b > a then b else a)))
      | _, _ => False
    | _ => False
  | .call { callee := .builtin .min, args, .. } => match args.toList with
    | [x, y] => match evO E T x, evO E T y with
      | .lit (.int k a), .lit (.int _ b) => K (.lit (.int k (if b < a then b else a)))
      | _, _ => False
    | _ => False
  | .call { callee := .builtin .unsafeSliceData, args, .. } => match args.toList with
    | [x] => match evO E T x with
      | .vs id off _ len => 0 < len ∧ K (.ptr id off)
      | _ => False
    | _ => False
  | _ => False
theorem loadT_ok {E : Env} {o : Oper} {T : Nat → TV} {S : TS} {t : TypeId} {x : Operand} {K : TV → Prop} (ho : o.op = .load t x) (h : loadT E.P S t (evO E T x) K) : ∃ v, QStab E o T S v ∧ K v := by
  unfold loadT at h
  split at h
  · exact h.elim
  · rename_i i hi
    split at h
    · rename_i id off hx
      split at h
      · rename_i e cs hobj
        split at h
        · rename_i hag
          exact ⟨_, ⟨fun S' hw hk => q_loadP ho hi hx (hk.obj hw hobj rfl) (by rw [if_pos hag]; exact ⟨h.1, rfl⟩), fun hp => by rw [ho] at hp; cases hp⟩, h.2⟩
        · rename_i hag
          refine ⟨_, ⟨fun S' hw hk => q_loadP ho hi hx (hk.obj hw hobj rfl) (by rw [if_neg hag]; simp [List.getD_eq_getElem?_getD, List.getElem?_eq_getElem h.1]), fun hp => by rw [ho] at hp; cases hp⟩, h.2⟩
      · exact h.elim
    · rename_i s d hx
      exact ⟨_, .of fun S' => q_loadE ho hi hx h.1 h.2.1, h.2.2⟩
    · exact h.elim
theorem fieldT_ok {P : Program} {t : TypeId} {f : Nat} {K : Field → TI → Prop} (h : fieldT P t f K) : ∃ i fs fld j, tiOf P t = some i ∧ i.desc = .struct fs ∧ fs[f]? = some fld ∧ tiOf P fld.type = some j ∧ K fld j := by
  unfold fieldT at h
  split at h
  · rename_i fs sz b z hi
    split at h
    · rename_i fld hf
      split at h
      · rename_i j hj
        exact ⟨_, fs, fld, j, hi, rfl, hf, hj, h⟩
      · exact h.elim
    · exact h.elim
  · exact h.elim
theorem q_max {E : Env} {o : Oper} {T : Nat → TV} {S : TS} {x y : Operand} {ty : Array TypeId} {k k' : IntKind} {a b : Int} (ho : o.op = .call { callee := .builtin .max, args := #[x, y], argTypes := ty }) (hx : evO E T x = .lit (.int k a)) (hy : evO E T y = .lit (.int k' b)) :
    QSem E o T S (.lit (.int k (if b > a then b else a))) := by
  intro w0 c w act hk hop
  rw [ho] at hop
  have h1 := hop x (by simp [Op.operands, Call.operands])
  have h2 := hop y (by simp [Op.operands, Call.operands])
  rw [hx] at h1
  rw [hy] at h2
  refine ⟨.int k (if b > a then b else a), ?_, .lit _⟩
  unfold execOp
  rw [ho]
  simp only [resolve, Sem.run_bind, Sem.run_pure, Result.andThen_ok, invoke, builtin, Builtin.max_, List.map_toArray, List.map_cons, List.map_nil, h1.lit_inv, h2.lit_inv, List.foldlM_cons, List.foldlM_nil, Builtin.max2]
theorem q_min {E : Env} {o : Oper} {T : Nat → TV} {S : TS} {x y : Operand} {ty : Array TypeId} {k k' : IntKind} {a b : Int} (ho : o.op = .call { callee := .builtin .min, args := #[x, y], argTypes := ty }) (hx : evO E T x = .lit (.int k a)) (hy : evO E T y = .lit (.int k' b)) :
    QSem E o T S (.lit (.int k (if b < a then b else a))) := by
  intro w0 c w act hk hop
  rw [ho] at hop
  have h1 := hop x (by simp [Op.operands, Call.operands])
  have h2 := hop y (by simp [Op.operands, Call.operands])
  rw [hx] at h1
  rw [hy] at h2
  refine ⟨.int k (if b < a then b else a), ?_, .lit _⟩
  unfold execOp
  rw [ho]
  simp only [resolve, Sem.run_bind, Sem.run_pure, Result.andThen_ok, invoke, builtin, Builtin.min_, List.map_toArray, List.map_cons, List.map_nil, h1.lit_inv, h2.lit_inv, List.foldlM_cons, List.foldlM_nil, Builtin.min2]
set_option maxHeartbeats 1000000 in
theorem quietT_ok {E : Env} {o : Oper} {T : Nat → TV} {S : TS} {K : TV → Prop} (h : quietT E o T S K) : ∃ v, QStab E o T S v ∧ K v := by
  unfold quietT at h
  split at h
  · rename_i x ho; exact ⟨_, .of fun S' => q_move (.inl ho), h⟩
  · rename_i x ho; exact ⟨_, .of fun S' => q_move (.inr ho), h⟩
  · rename_i c x y ho
    split at h
    · rename_i b hb; exact ⟨_, .of fun S' => q_pick ho hb, h⟩
    · exact h.elim
  · rename_i op ty x y yt ho
    split at h
    · rename_i a b hx hy
      split at h
      · rename_i r hr; exact ⟨_, .of fun S' => q_bin ho hx hy hr, h⟩
      · split at h
        · rename_i m hm
          split at h
          · rename_i r hr; exact ⟨_, .of fun S' => q_ptrEq ho h.1 hm (by rw [hx, hy]; exact hr), h.2⟩
          · exact h.elim
        · exact h.elim
    · split at h
      · rename_i m hm
        split at h
        · rename_i r hr; exact ⟨_, .of fun S' => q_ptrEq ho h.1 hm hr, h.2⟩
        · exact h.elim
      · exact h.elim
  · rename_i op ty x ho
    split at h
    · rename_i a hx
      split at h
      · rename_i r hr; exact ⟨_, .of fun S' => q_un ho hx hr, h⟩
      · exact h.elim
    · exact h.elim
  · rename_i s d x ho
    split at h
    · rename_i i j hi hj
      split at h
      · rename_i k n hx
        split at h
        · rename_i k' hd; exact ⟨_, .of fun S' => q_convInt ho hi hj hd hx, h⟩
        · rename_i k' hd; exact ⟨_, .of fun S' => q_convFlt ho hi hj hd hx, h⟩
        · exact h.elim
      · rename_i v hx
        split at h
        · rename_i hd; exact ⟨_, .of fun S' => q_convStr ho hi hj hd hx, h⟩
        · exact h.elim
      · rename_i g s' xs hx
        split at h
        · rename_i e he
          split at h
          · rename_i ie hie
            obtain ⟨h1, h2, h3, h4⟩ := h
            split at h4
            · rename_i ns hns
              subst h1
              exact ⟨_, .of fun S' => q_bytesStr ho hi he hie h2 hj h3 hx hns, h4⟩
            · exact h4.elim
          · exact h.elim
        · exact h.elim
      · rename_i id off s' len hx
        split at h
        · rename_i e he
          split at h
          · rename_i ie e1 cs hie hobj
            obtain ⟨h1, h2, h3, h4, h5⟩ := h
            split at h5
            · rename_i ns hns
              subst h1
              exact ⟨_, ⟨fun S' hw hkp => q_bytesStrV ho hi he hie h2 hj h3 hx (hkp.obj hw hobj rfl) h4 hns, fun hp => by rw [ho] at hp; cases hp⟩, h5⟩
            · exact h5.elim
          · exact h.elim
        · exact h.elim
      · rename_i id off hx
        split at h
        · rename_i t hd1 hd2
          split at h
          · rename_i k e cs hk hobj; exact ⟨_, ⟨fun S' hw hkp => q_toUnsafe ho hi hd1 hj hd2 hk h.1 hx (hkp.obj hw hobj rfl) h.2.1, fun hp => by rw [ho] at hp; cases hp⟩, h.2.2⟩
          · exact h.elim
        · rename_i t hd1 hd2
          split at h
          · rename_i k e cs hk hobj
            obtain ⟨rfl, rfl, hv, h⟩ := h
            simp only [viewB, Bool.and_eq_true, bne_iff_ne, decide_eq_true_eq] at hv
            exact ⟨_, ⟨fun S' hw hkp => q_ofUnsafe ho hi hd1 hj hd2 hk hx (hkp.obj hw hobj rfl) hv.1.1.1 hv.1.1.2 hv.1.2 hv.2, fun hp => by rw [ho] at hp; cases hp⟩, h⟩
          · exact h.elim
        · exact h.elim
      · exact h.elim
    · exact h.elim
  · rename_i t x ho
    split at h
    · rename_i i hi hx; exact ⟨_, .of fun S' => q_iface ho hi h.1 hx, h.2⟩
    · exact h.elim
  · rename_i t x ho; exact loadT_ok ho h
  · rename_i t x f ho
    obtain ⟨i, fs, fld, j, h1, h2, h3, h4, h5, h6⟩ := fieldT_ok h
    split at h6
    · rename_i id off hx; exact ⟨_, .of fun S' => q_fieldP ho h1 h2 h3 h4 h5 hx, h6⟩
    · rename_i s cs hx
      split at h6
      · rename_i r hr; exact ⟨_, .of fun S' => q_fieldE ho h1 h2 h3 h4 h5 hx hr, h6⟩
      · exact h6.elim
    · exact h6.elim
  · rename_i t x f ho
    obtain ⟨i, fs, fld, j, h1, h2, h3, h4, h6⟩ := fieldT_ok h
    split at h6
    · rename_i cs hx
      split at h6
      · rename_i r hr; exact ⟨_, .of fun S' => q_field ho h1 h2 h3 h4 hx hr, h6⟩
      · exact h6.elim
    · exact h6.elim
  · rename_i t x y ho
    split at h
    · rename_i k m n e sz b z hy ht
      split at h
      · rename_i j hj
        obtain ⟨h0, h1, h2⟩ := h
        split at h2
        · rename_i id off hx; exact ⟨_, .of fun S' => q_indexAddrP ho ht rfl hj hx hy h0 h1, h2⟩
        · rename_i s cs hx
          split at h2
          · rename_i r hr; exact ⟨_, .of fun S' => q_indexAddrE ho ht rfl hj hx hy h0 h1 hr, h2⟩
          · exact h2.elim
        · exact h2.elim
      · exact h.elim
    · rename_i k m e sz b z hy ht
      split at h
      · rename_i j hj
        split at h
        · rename_i g s xs hx
          obtain ⟨h0, h1, h2, h3⟩ := h
          exact ⟨_, .of fun S' => q_indexAddrS ho ht rfl hj hx hy h0 h1 h2, h3⟩
        · rename_i id off s len hx
          obtain ⟨h0, h1, h2, h3⟩ := h
          exact ⟨_, .of fun S' => q_indexAddrV ho ht rfl hj hx hy h0 h1 h2, h3⟩
        · exact h.elim
      · exact h.elim
    · exact h.elim
  · rename_i t x y ho
    split at h
    · rename_i k m n e sz b z hy ht
      split at h
      · rename_i j cs hj hx
        obtain ⟨h0, h1, h2⟩ := h
        split at h2
        · rename_i r hr; exact ⟨_, .of fun S' => q_indexA ho ht rfl hj hx hy h0 h1 hr, h2⟩
        · exact h2.elim
      · exact h.elim
    · rename_i k m sz b z hy ht
      split at h
      · rename_i v hx
        obtain ⟨h0, h1, h2⟩ := h
        refine ⟨_, .of fun S' => q_indexStr ho ht rfl hx hy h0 h1, ?_⟩
        have e : (v.data[m.toNat]?).getD 0 = v[m.toNat]'h1 := by
          have : v.data[m.toNat]? = some (v.data[m.toNat]'h1) := Array.getElem?_eq_getElem h1
          rw [this]; rfl
        rw [← e]; exact h2
      · exact h.elim
    · exact h.elim
  · rename_i t x lo hi mx ho
    split at h
    · rename_i nl nh nm e sz b z hl hh hm ht
      split at h
      · rename_i j hj
        split at h
        · rename_i r hr; exact ⟨_, .of fun S' => q_slice ho ht rfl hj hl hh hm hr, h⟩
        · exact h.elim
      · exact h.elim
    · rename_i nl nh n e sz b z hl hh hm ht
      split at h
      · rename_i j id off hj hx
        split at h
        · rename_i et cs hobj
          obtain ⟨h0, hr, h1, h2, h3, h4, h5⟩ := h
          subst h0
          exact ⟨_, ⟨fun S' hw hk => q_sliceArr ho ht rfl hj hl hh hx (hk.obj hw hobj rfl) hr h1 h2 h3 h4, fun hp => by rw [ho] at hp; cases hp⟩, h5⟩
        · exact h.elim
      · exact h.elim
    · rename_i nl nh sz b z hl hh hm ht
      split at h
      · rename_i v hx
        obtain ⟨h0, h1, h2, h3, h5⟩ := h
        subst h0
        exact ⟨_, .of fun S' => q_sliceStr ho ht rfl hl hh hx h1 h2 h3, h5⟩
      · exact h.elim
    · exact h.elim
  · rename_i t x y ok ho
    split at h
    · rename_i kt et sz b z k ht hy
      split at h
      · rename_i ik ie hik hie
        split at h
        · rename_i id hx
          split at h
          · rename_i es clock hobj
            exact ⟨_, ⟨fun S' hw hk => q_lookup ho ht rfl hik hie hx hy (hk.obj hw hobj rfl) h.1 h.2.1, fun hp => by rw [ho] at hp; cases hp⟩, h.2.2⟩
          · exact h.elim
        · rename_i hx
          exact ⟨_, .of fun S' => q_lookupNil ho ht rfl hik hie hx hy h.1, h.2⟩
        · exact h.elim
      · exact h.elim
    · exact h.elim
  · rename_i x k ho
    split at h
    · rename_i ts hx
      split at h
      · rename_i r hr; exact ⟨_, .of fun S' => q_extract ho hx hr, h⟩
      · exact h.elim
    · exact h.elim
  · rename_i x ho
    split at h
    · rename_i id off hx; exact ⟨_, .of fun S' => q_nilCheck ho (.inl ⟨id, off, hx⟩), by rw [hx]; exact h⟩
    · rename_i s d hx; exact ⟨_, .of fun S' => q_nilCheck ho (.inr ⟨s, d, hx⟩), by rw [hx]; exact h⟩
    · exact h.elim
  · rename_i f first cap ho; exact ⟨_, .of fun S' => q_makeFunc ho, h⟩
  · rename_i t ps ho
    split at h
    · rename_i i hi
      split at h
      · rename_i fs hd
        split at h
        · rename_i pl hp
          obtain ⟨h1, h2⟩ := h
          split at h2
          · rename_i cs hc; exact ⟨_, .of fun S' => q_build ho hi hd hp h1 hc, h2⟩
          · exact h2.elim
        · exact h.elim
      · exact h.elim
    · exact h.elim
  · rename_i args ty ho
    split at h
    · rename_i x t ha hty
      have hargs : args = #[x] := by rw [← Array.toArray_toList (xs := args), ha]
      have htys : ty = #[t] := by rw [← Array.toArray_toList (xs := ty), hty]
      subst hargs htys
      split at h
      · rename_i i hi
        split at h
        · rename_i e g s xs hd hx; exact ⟨_, .of fun S' => q_len ho rfl hi (by rw [hd, hx]), h⟩
        · rename_i e id off s len hd hx; exact ⟨_, .of fun S' => q_len ho rfl hi (by rw [hd, hx]), h⟩
        · rename_i v hd hx; exact ⟨_, .of fun S' => q_len ho rfl hi (by rw [hd, hx]), h⟩
        · rename_i k e hd; exact ⟨_, .of fun S' => q_len ho rfl hi (by rw [hd]), h⟩
        · rename_i k e hd hx; exact ⟨_, .of fun S' => q_len ho rfl hi (by rw [hd, hx]), h⟩
        · rename_i k e id hd hx
          split at h
          · rename_i es clock hobj; exact ⟨_, ⟨fun S' hw hk => q_len ho rfl hi (by rw [hd, hx]; exact ⟨es, clock, hk.obj hw hobj rfl, rfl⟩), fun hp => by rw [ho] at hp; cases hp⟩, h⟩
          · exact h.elim
        · exact h.elim
      · exact h.elim
    · exact h.elim
  · rename_i args ty ho
    split at h
    · rename_i x y ha
      have hargs : args = #[x, y] := by rw [← Array.toArray_toList (xs := args), ha]
      subst hargs
      split at h
      · rename_i k a k' b hx hy; exact ⟨_, .of fun S' => q_max ho hx hy, h⟩
      · exact h.elim
    · exact h.elim
  · rename_i args ty ho
    split at h
    · rename_i x y ha
      have hargs : args = #[x, y] := by rw [← Array.toArray_toList (xs := args), ha]
      subst hargs
      split at h
      · rename_i k a k' b hx hy; exact ⟨_, .of fun S' => q_min ho hx hy, h⟩
      · exact h.elim
    · exact h.elim
  · rename_i args ty ho
    split at h
    · rename_i x ha
      have hargs : args = #[x] := by rw [← Array.toArray_toList (xs := args), ha]
      subst hargs
      split at h
      · rename_i id off s len hx; exact ⟨_, .of fun S' => q_sliceData ho hx h.1, h.2⟩
      · exact h.elim
    · exact h.elim
  · exact h.elim
end Go.Proofs.YtlljknmojafkoaaGreatDoor.TL
namespace Go.Proofs.YtlljknmojafkoaaGreatDoor.TL
open Go.RowKit
def notInt : TypeDesc → Bool
  | .int _ => false
  | _ => true
def opT (E : Env) (o : Oper) (T : Nat → TV) (S : TS) (K : TV → TS → Prop) : Prop :=
  match o.op with
  | .alloc e => match tiOf E.P e with
    | some i => cellT (ofConst i.zero) = true ∧ K (.ptr S.n 0) (S.push (.cells e (cellsT (ofConst i.zero))))
    | none => False
  | .box e x => cellT (evO E T x) = true ∧ K (.ptr S.n 0) (S.push (.cells e (cellsT (evO E T x))))
  | .store t x y => match tiOf E.P t, evO E T x with
    | some i, .ptr id off => match S.objs id with
      | .cells e cs => cellT (evO E T y) = true ∧ (cellsT (evO E T y)).length = i.size ∧ off + i.size ≤ cs.length ∧ K .unk (S.set id (.cells e (spl cs off (cellsT (evO E T y)))))
      | _ => False
    | _, _ => False
  | .buildSlice t n ps => match tiOf E.P t with
    | some { desc := .slice e, .. } => match tiOf E.P e with
      | some j => 0 < j.size ∧ n * j.size ≤ 2 ^ 24 ∧ (match fillT (fun q => some (q * j.size, j.size)) (List.replicate (n * j.size) .unk) (partsT E T ps) with
        | some cs => if E.wr o.pos = true then K (.vs S.n 0 j.size n) (S.push (.cells e cs)) else cs.all flatT = true ∧ (isAggD j.desc = false → j.size = 1) ∧ (match chunks (isAggD j.desc) j.size n cs with
          | some ds => K (.sl .full j.size ds) S
          | none => False)
        | none => False)
      | none => False
    | _ => False
  | .makeSlice t x y => match tiOf E.P t, evO E T x, evO E T y with
    | some { desc := .slice e, .. }, .lit (.int _ l), .lit (.int _ l') => match tiOf E.P e with
      | some j => l = l' ∧ j.size = 1 ∧ j.zero.cells = #[j.zero] ∧ 0 ≤ l ∧ j.bytes * l ≤ LIM ∧ 0 < j.bytes ∧ K (.vs S.n 0 1 l.toNat) (S.push (.cells e (List.replicate l.toNat (ofConst1 j.zero))))
      | none => False
    | _, _, _ => False
  | .convert s d x => match evO E T x, tiOf E.P s, tiOf E.P d with
    | .lit (.string b), some _, some { desc := .slice e, .. } => match tiOf E.P e with
      | some ie => ie.desc = .int .u8 ∧ b.size ≤ LIM ∧ (if E.wr o.pos = true then K (.vs S.n 0 1 b.size) (S.push (.cells e (cellsD (bytesD b)))) else K (.sl (.own S.n) 1 (bytesD b)) (S.push .lin))
      | none => False
    | _, _, _ => quietT E o T S fun v => K v S
  | .call { callee := .builtin .append, args, argTypes } => match args.toList, argTypes.toList with
    | [x, y], [t, u] => match tiOf E.P t, tiOf E.P u, evO E T x with
      | some { desc := .slice e, .. }, some iu, .sl g s xs => match tiOf E.P e with
        | some j => match srcD S (isAggD j.desc) j.size (evO E T y) with
          | some ys => notInt iu.desc = true ∧ (s = j.size ∨ (xs = [] ∧ g = .full)) ∧ rowTag S g ∧ (xs.length + ys.length) * j.bytes ≤ LIM ∧ 0 < j.bytes ∧ j.zero.cells.size = j.size ∧ 0 < j.size ∧ K (.sl (.own S.n) j.size (xs ++ ys)) ((kill S g).push .lin)
          | none => False
        | none => False
      | some { desc := .slice e, .. }, some iu, .vs id off s len => match tiOf E.P e, S.objs id with
        | some j, .cells e1 cs => match srcD S (isAggD j.desc) j.size (evO E T y) with
          | some ys => notInt iu.desc = true ∧ e1 = e ∧ s = j.size ∧ off = 0 ∧ off + len * s = cs.length ∧ (len + ys.length) * j.bytes ≤ LIM ∧ 0 < j.bytes ∧ j.zero.cells.size = j.size ∧ 0 < j.size ∧ K (.vs S.n 0 s (len + ys.length)) ((S.set id .gone).push (.cells e (cs.drop off ++ cellsD ys)))
          | none => False
        | _, _ => False
      | _, _, _ => False
    | _, _ => False
  | .call { callee := .builtin .copy, args, argTypes } => match args.toList, argTypes.toList with
    | [x, y], t :: _ => match tiOf E.P t, evO E T x, evO E T y with
      | some { desc := .slice e, .. }, .vs d off s l, .vs d' off' s' l' => match tiOf E.P e, S.objs d, S.objs d' with
        | some j, .cells e1 cs, .cells _ cs' => s = j.size ∧ s' = j.size ∧ cs'.all flatT = true ∧ off + min l' l * j.size ≤ cs.length ∧ off' + min l' l * j.size ≤ cs'.length ∧
          K (.lit (.int .i64 ((min l' l : Nat) : Int))) (S.set d (.cells e1 (spl cs off ((cs'.drop off').take (min l' l * j.size)))))
        | _, _, _ => False
      | _, _, _ => False
    | _, _ => False
  | .call { callee := .builtin .delete, args, argTypes } => match args.toList, argTypes.toList with
    | [x, y], [t, _] => match tiOf E.P t, evO E T y with
      | some { desc := .map kt et, .. }, .lit k => match tiOf E.P kt with
        | some ik => match evO E T x with
          | .mp id => match S.objs id with
            | .map es clock => isKeyB ik.desc k = true ∧ keysOk ik.desc es = true ∧ K (.tup []) (S.set id (.map (match findT k es with | some j => es.eraseIdx j | none => es) clock))
            | _ => False
          | .lit (.map none) => isKeyB ik.desc k = true ∧ K (.tup []) S
          | _ => False
        | none => False
      | _, _ => False
    | _, _ => False
  | .binOp op ty x (.const (.slice none 0 0)) _ => match tiOf E.P ty, evO E T x with
    | some { desc := .slice _, .. }, .sl _ _ xs => isEq op = true ∧ (xs = [] → K (.lit (.bool (nilB op true))) S) ∧ K (.lit (.bool (nilB op false))) S
    | some { desc := .slice _, .. }, .vs _ _ _ len => isEq op = true ∧ (len = 0 → K (.lit (.bool (nilB op true))) S) ∧ K (.lit (.bool (nilB op false))) S
    | _, _ => False
  | .call { callee := .builtin .unsafeString, args, argTypes } => match args.toList, argTypes.toList with
    | [x, y], [pt, _] => match tiOf E.P pt, evO E T x, evO E T y with
      | some { desc := .pointer e, .. }, .ptr id 0, .lit (.int .i64 n) => match S.objs id with
        | .cells e1 cs => ∃ l : List UInt8, e1 = e ∧ E.P.cellsOf e = 1 ∧ cs = (l.map fun b => .lit (.int .u8 b.toNat)) ∧ n = l.length ∧ l ≠ [] ∧ l.length ≤ 9223372036854775807 ∧ K (.lit (.string ⟨l.toArray⟩)) (S.set id .gone)
        | _ => False
      | _, _, _ => False
    | _, _ => False
  | .makeMap t none => K (.mp S.n) (S.push (.map [] 0))
  | .mapUpdate t x y z | .insert t x y z => match tiOf E.P t, evO E T x, evO E T y with
    | some { desc := .map kt et, .. }, .mp id, .lit k => match tiOf E.P kt, S.objs id with
      | some ik, .map es clock => isKeyB ik.desc k = true ∧ keysOk ik.desc es = true ∧ K .unk (S.set id (.map (putE k (evO E T z) es clock) (clkE k es clock)))
      | _, _ => False
    | _, _, _ => False
  | .mapEntry t x y => match tiOf E.P t, evO E T x, evO E T y with
    | some { desc := .map kt et, .. }, .mp id, .lit k => match tiOf E.P kt, tiOf E.P et, S.objs id with
      | some ik, some ie, .map es clock => isKeyB ik.desc k = true ∧ keysOk ik.desc es = true ∧
        K (.tup [lookT k es (ofConst ie.zero), .lit (.int .i64 (match findT k es with | some j => (bornAt es j : Int) | none => (clock : Int)))]) (S.set id (.map (putE k (lookT k es (ofConst ie.zero)) es clock) (clkE k es clock)))
      | _, _, _ => False
    | _, _, _ => False
  | .entryStore t x y z => match evO E T x, evO E T y with
    | .mp id, .lit (.int _ n) => match S.objs id with
      | .map es clock => match es.findIdx? (fun e => (e.2.1 : Int) == n) with
        | some j => K .unk (S.set id (.map (es.modify j fun e => (e.1, e.2.1, evO E T z)) clock))
        | none => False
      | _ => False
    | _, _ => False
  | .range t x => match tiOf E.P t, evO E T x with
    | some { desc := .map _ _, .. }, .mp id => match S.objs id with
      | .map _ clock => K (.ptr S.n 0) (S.push (.iter (some id) clock [] clock))
      | _ => False
    | some { desc := .map _ _, .. }, .lit (.map none) => K (.ptr S.n 0) (S.push (.iter none 0 [] 0))
    | _, _ => False
  | .next x false => match evO E T x with
    | .ptr it 0 => match S.objs it with
      | .iter none _ _ _ => K (.tup [.lit (.bool false)]) S
      | .iter (some id) since seen last => match S.objs id with
        | .map es clock => since = clock ∧ last = clock ∧ (∀ e ∈ es, e.2.1 < clock) ∧
          (∀ (j : Nat) e, es[j]? = some e → e.2.1 ∉ seen → K (.tup [.lit (.bool true), .lit e.1, e.2.2]) (S.set it (.iter (some id) clock (seen ++ [e.2.1]) clock))) ∧
          ((∀ e ∈ es, e.2.1 ∈ seen) → K (.tup [.lit (.bool false)]) S)
        | _ => False
      | _ => False
    | _ => False
  | .entry x => match evO E T x with
    | .ptr it 0 => match S.objs it with
      | .iter (some id) _ seen last => match S.objs id with
        | .map es clock => last = clock ∧ (match seen.getLast? with
          | some st => (match es.find? (fun e => e.2.1 == st) with
            | some e => K (.tup [.lit e.1, e.2.2]) S
            | none => False)
          | none => False)
        | _ => False
      | _ => False
    | _ => False
  | .call { callee := .value f, args, .. } => match evO E T f with
    | .fn (.func g) first cap => TCall E g (first ++ args.toList.map (evO E T) ++ cap) S K
    | _ => False
  | _ => quietT E o T S fun v => K v S
theorem ESem.quiet {E : Env} {o : Oper} {T : Nat → TV} {S : TS} {K : TV → TS → Prop} (h : quietT E o T S fun v => K v S) : ESem E o T S K := by
  obtain ⟨v, h1, h2⟩ := quietT_ok h
  exact .of_run fun w0 c w a hk ho =>
    let ⟨u, k1, k2⟩ := h1.1 S hk.rel.wf (KpL.refl S) w0 c w a hk ho
    ⟨u, w, .inl k1, v, c, S, hk, Mono.refl c w, k2, h2⟩
theorem arr_of_toList {α : Type} {a : Array α} {l : List α} (h : a.toList = l) : a = l.toArray := by rw [← h]
set_option maxHeartbeats 1000000 in
theorem opT_ok {E : Env} {o : Oper} {T : Nat → TV} {S : TS} {K : TV → TS → Prop} (h : opT E o T S K) : ESem E o T S K := by
  unfold opT at h
  split at h
  · rename_i e ho
    split at h
    · rename_i i hi; exact e_alloc ho hi h.1 h.2
    · exact h.elim
  · rename_i e x ho; exact e_box ho h.1 h.2
  · rename_i t x y ho
    split at h
    · rename_i i id off hi hx
      split at h
      · rename_i e cs hobj; exact e_store ho hi hx hobj h.1 h.2.1 h.2.2.1 h.2.2.2
      · exact h.elim
    · exact h.elim
  · rename_i t n ps ho
    split at h
    · rename_i e sz b z hi
      split at h
      · rename_i j hj
        obtain ⟨h0, h1, h2⟩ := h
        split at h2
        · rename_i cs hf
          split at h2
          · exact e_litV ho hi rfl hj h1 hf h2
          · obtain ⟨h3, h4, h5⟩ := h2
            split at h5
            · rename_i ds hc
              refine e_lit ho hi rfl hj h0 h1 hf h3 h4 hc ?_ h5
              have := fillT_length _ _ hf
              simp at this
              omega
            · exact h5.elim
        · exact h2.elim
      · exact h.elim
    · exact h.elim
  · rename_i t x y ho
    split at h
    · rename_i e sz b z k l k' l' hi hx hy
      split at h
      · rename_i j hj
        obtain ⟨rfl, h1, h2, h4, h5, h6, h7⟩ := h
        exact e_makeV ho hi rfl hj h1 h2 hx hy h4 h5 h6 h7
      · exact h.elim
    · exact h.elim
  · rename_i s d x ho
    split at h
    · rename_i b i e sz bb z hx hi hd
      split at h
      · rename_i ie hie
        obtain ⟨h1, h2, h3⟩ := h
        split at h3
        · exact e_strBytesV ho hi hd rfl hie h1 hx h2 h3
        · exact e_strBytes ho hi hd rfl hie h1 hx h2 h3
      · exact h.elim
    · exact .quiet h
  · rename_i args ty ho
    split at h
    · rename_i x y t u ha hty
      have h1 := arr_of_toList ha
      have h2 := arr_of_toList hty
      subst h1 h2
      split at h
      · rename_i e sz b z iu g s xs hi hu hx
        split at h
        · rename_i j hj
          split at h
          · rename_i ys hy
            obtain ⟨h1, h2, h3, h4, h5, h6, h7, h8⟩ := h
            exact e_append ho hi rfl hj hu (fun k hk => by rw [hk] at h1; cases h1) hx h2 h3 hy h4 h5 h6 h7 h8
          · exact h.elim
        · exact h.elim
      · rename_i e sz b z iu id off s len hi hu hx
        split at h
        · rename_i j e1 cs hj hobj
          split at h
          · rename_i ys hy
            obtain ⟨h1, rfl, h2, h00, h3, h4, h5, h6, h7, h8⟩ := h
            exact e_appendV ho hi rfl hj hu (fun k hk => by rw [hk] at h1; cases h1) hx hobj h2 h00 h3 hy h4 h5 h6 h7 h8
          · exact h.elim
        · exact h.elim
      · exact h.elim
    · exact h.elim
  · rename_i args ty ho
    split at h
    · rename_i x y t ts ha hty
      have h1 := arr_of_toList ha
      have h2 := arr_of_toList hty
      subst h1 h2
      split at h
      · rename_i e sz b z d off s l d' off' s' l' hi hx hy
        split at h
        · rename_i j e1 cs e2 cs' hj hobj hobj'
          obtain ⟨rfl, rfl, h3, h4, h5, h6⟩ := h
          exact e_copy ho rfl hi rfl hj hx hy hobj hobj' h3 h4 h5 h6
        · exact h.elim
      · exact h.elim
    · exact h.elim
  · rename_i args ty ho
    split at h
    · rename_i x y t t2 ha hty
      have h1 := arr_of_toList ha
      have h2 := arr_of_toList hty
      subst h1 h2
      split at h
      · rename_i kt et sz b z k hi hy
        split at h
        · rename_i ik hik
          split at h
          · rename_i id hx
            split at h
            · rename_i es clock hobj; exact e_delete ho hi rfl hik hx hy hobj h.1 h.2.1 h.2.2
            · exact h.elim
          · rename_i hx; exact e_deleteNil ho hi rfl hik hx hy h.1 h.2
          · exact h.elim
        · exact h.elim
      · exact h.elim
    · exact h.elim
  · rename_i op ty x yt ho
    split at h
    · rename_i e sz b z g s xs hi hx; exact e_nilSl ho h.1 hi rfl hx h.2.1 h.2.2
    · rename_i e sz b z id off s len hi hx; exact e_nilVs ho h.1 hi rfl hx h.2.1 h.2.2
    · exact h.elim
  · rename_i args ty ho
    split at h
    · rename_i x y pt it ha hty
      have h1 := arr_of_toList ha
      have h2 := arr_of_toList hty
      subst h1 h2
      split at h
      · rename_i e sz b z id n hi hx hy
        split at h
        · rename_i e1 cs hobj
          obtain ⟨l, rfl, h1, rfl, h2, h3, h4, h5⟩ := h
          exact e_unsafeString ho hi rfl h1 hx hy hobj h2 h3 h4 h5
        · exact h.elim
      · exact h.elim
    · exact h.elim
  · rename_i t ho; exact e_makeMap ho h
  · rename_i t x y z ho
    split at h
    · rename_i kt et sz b zz id k hi hx hy
      split at h
      · rename_i ik es clock hik hobj; exact e_mapUpdate (.inl ho) hi rfl hik hx hy hobj h.1 h.2.1 h.2.2
      · exact h.elim
    · exact h.elim
  · rename_i t x y z ho
    split at h
    · rename_i kt et sz b zz id k hi hx hy
      split at h
      · rename_i ik es clock hik hobj; exact e_mapUpdate (.inr ho) hi rfl hik hx hy hobj h.1 h.2.1 h.2.2
      · exact h.elim
    · exact h.elim
  · rename_i t x y ho
    split at h
    · rename_i kt et sz b zz id k hi hx hy
      split at h
      · rename_i ik ie es clock hik hie hobj; exact e_mapEntry ho hi rfl hik hie hx hy hobj h.1 h.2.1 h.2.2
      · exact h.elim
    · exact h.elim
  · rename_i t x y z ho
    split at h
    · rename_i id kk n hx hy
      split at h
      · rename_i es clock hobj
        split at h
        · rename_i j hj; exact e_entryStore ho hx hy hobj hj h
        · exact h.elim
      · exact h.elim
    · exact h.elim
  · rename_i t x ho
    split at h
    · rename_i k e sz b z id hi hx
      split at h
      · rename_i es clock hobj; exact e_range ho hi rfl hx hobj h
      · exact h.elim
    · rename_i k e sz b z hi hx; exact e_rangeNil ho hi rfl hx h
    · exact h.elim
  · rename_i x ho
    split at h
    · rename_i it hx
      split at h
      · rename_i since seen last hobj; exact e_nextNil ho hx hobj h
      · rename_i id since seen last hobj
        split at h
        · rename_i es clock hmap
          obtain ⟨rfl, rfl, h1, h2, h3⟩ := h
          exact e_next ho hx hobj hmap h1 h2 h3
        · exact h.elim
      · exact h.elim
    · exact h.elim
  · rename_i x ho
    split at h
    · rename_i it hx
      split at h
      · rename_i id since seen last hobj
        split at h
        · rename_i es clock hmap
          obtain ⟨rfl, h1⟩ := h
          split at h1
          · rename_i s hs
            split at h1
            · rename_i e hf; exact e_entry ho hx hobj hmap hs hf h1
            · exact h1.elim
          · exact h1.elim
        · exact h.elim
      · exact h.elim
    · exact h.elim
  · rename_i f args ty ho
    split at h
    · rename_i g first cap hf; exact e_call ho hf h
    · exact h.elim
  · exact .quiet h
def evL (E : Env) (N : Nat) (ops : Array Oper) : List Oper → ((Nat → TV) → TS → Prop) → (Nat → TV) → TS → Prop
  | [], K, T, S => K T S
  | o :: l, K, T, S =>
    match o.guard with
    | none => opT E o T S fun t S' => evL E N ops l K (putT T o.dst t) S'
    | some (j, want) =>
      match (ops[j]?).bind (·.dst) with
      | some d =>
        match T d with
        | .lit b => d < N ∧ (bOf b = some want → opT E o T S fun t S' => evL E N ops l K (putT T o.dst t) S') ∧ (bOf b ≠ some want → evL E N ops l K (putT T o.dst (.lit undef)) S)
        | _ => False
      | none => False
theorem ESem.mono {E : Env} {o : Oper} {T : Nat → TV} {S : TS} {K K' : TV → TS → Prop} (h : ESem E o T S K) (hk : ∀ t S, K t S → K' t S) : ESem E o T S K' :=
  fun w0 c w a h1 h2 next Q hn => h w0 c w a h1 h2 next Q fun v w' hf => hn v w' (hf.mono hk)
theorem evL_ok {E : Env} {N : Nat} {ops : Array Oper} : ∀ {l : List Oper} {K : (Nat → TV) → TS → Prop} {T : Nat → TV} {S : TS}, evL E N ops l K T S → TOps E N ops l K T S
  | [], K, T, S, h => .nil h
  | o :: l, K, T, S, h => by
    unfold evL at h
    split at h
    · rename_i hg; exact .step hg ((opT_ok h).mono fun t S' h => evL_ok h)
    · rename_i j want hg
      split at h
      · rename_i d hd
        split at h
        · rename_i b hb
          exact .guarded hg hd hb h.1 (fun hw => (opT_ok (h.2.1 hw)).mono fun t S' h => evL_ok h) (fun hw => evL_ok (h.2.2 hw))
        · exact h.elim
      · exact h.elim
theorem TWp.reg {E : Env} {N : Nat} {id : Nat} {ops : Array Oper} {Q : Exit → (Nat → TV) → TS → Prop} {T : Nat → TV} {S : TS} (h : evL E N ops ops.toList (fun T S => Q .normal T S) T S) : TWp E N (.region id ops false) Q T S := .region (evL_ok h)
end Go.Proofs.YtlljknmojafkoaaGreatDoor.TL
namespace Go.Proofs.YtlljknmojafkoaaGreatDoor.TL
open Go.RowKit
/-- The same value, where the objects of L are called n, n + 1, .. -/
inductive Ren (n : Nat) (L : List Nat) : TV → TV → Prop
  | lit (v : Value) : Ren n L (.lit v) (.lit v)
  | sl0 (g : Tag) (s : Nat) (xs : List D) (h : g = .none ∨ g = .full ∨ ∃ k, g = .own k ∧ k < n) : Ren n L (.sl g s xs) (.sl g s xs)
  | sl (i k s : Nat) (xs : List D) (h : L[i]? = some k) : Ren n L (.sl (.own k) s xs) (.sl (.own (n + i)) s xs)
  | slN (g : Tag) (s : Nat) (xs : List D) : Ren n L (.sl g s xs) (.sl .none s xs)
  | eptr (s : Nat) (d : D) : Ren n L (.eptr s d) (.eptr s d)
  | ptr0 (id off : Nat) (h : id < n) : Ren n L (.ptr id off) (.ptr id off)
  | ptr (i id off : Nat) (h : L[i]? = some id) : Ren n L (.ptr id off) (.ptr (n + i) off)
  | vs0 (id off s l : Nat) (h : id < n) : Ren n L (.vs id off s l) (.vs id off s l)
  | vs (i id off s l : Nat) (h : L[i]? = some id) : Ren n L (.vs id off s l) (.vs (n + i) off s l)
  | mp0 (id : Nat) (h : id < n) : Ren n L (.mp id) (.mp id)
  | mp (i id : Nat) (h : L[i]? = some id) : Ren n L (.mp id) (.mp (n + i))
  | fn (f : Fn) (a b a' b' : List TV) (h1 : a'.length = a.length) (h2 : b'.length = b.length) (h3 : ∀ (j : Nat) t t', a[j]? = some t → a'[j]? = some t' → Ren n L t t') (h4 : ∀ (j : Nat) t t', b[j]? = some t → b'[j]? = some t' → Ren n L t t') : Ren n L (.fn f a b) (.fn f a' b')
  | agg (a a' : List TV) (h1 : a'.length = a.length) (h3 : ∀ (j : Nat) t t', a[j]? = some t → a'[j]? = some t' → Ren n L t t') : Ren n L (.agg a) (.agg a')
  | tup (a a' : List TV) (h1 : a'.length = a.length) (h3 : ∀ (j : Nat) t t', a[j]? = some t → a'[j]? = some t' → Ren n L t t') : Ren n L (.tup a) (.tup a')
  | unk (t : TV) : Ren n L t .unk
inductive RenO (n : Nat) (L : List Nat) : TObj → TObj → Prop
  | gone (o : TObj) : RenO n L o .gone
  | lin : RenO n L .lin .lin
  | cells (e : TypeId) (a a' : List TV) (h1 : a'.length = a.length) (h : ∀ (j : Nat) t t', a[j]? = some t → a'[j]? = some t' → Ren n L t t') : RenO n L (.cells e a) (.cells e a')
  | map (a a' : List (Value × Nat × TV)) (clock : Nat) (h1 : a'.length = a.length) (h : ∀ (j : Nat) t t', a[j]? = some t → a'[j]? = some t' → t'.1 = t.1 ∧ t'.2.1 = t.2.1 ∧ Ren n L t.2.2 t'.2.2) : RenO n L (.map a clock) (.map a' clock)
structure CxR (n : Nat) (L : List Nat) (c c2 : Cx) : Prop where
  A : c2.A = c.A
  lo : ∀ id, id < n → c2.γ id = c.γ id
  hi : ∀ (i k : Nat), L[i]? = some k → c2.γ (n + i) = c.γ k
  n : c2.n = n + L.length
theorem Ren.ok {n : Nat} {L : List Nat} {c c2 : Cx} {w : World} (hc : CxR n L c c2) {t t' : TV} (h : Ren n L t t') : ∀ {v : Value}, RdT c w t v → RdT c2 w t' v := by
  induction h with
  | lit v => intro u hr; rw [hr.lit_inv]; exact .lit _
  | sl0 g s xs h =>
    intro u hr
    cases hr with
    | sl _ _ _ _ h1 hg =>
      refine .sl _ _ _ _ (by rw [hc.A]; exact h1) ?_
      rcases h with rfl | rfl | ⟨k, rfl, hk⟩
      · trivial
      · cases u <;> exact hg
      · cases u with
        | slice a m cap =>
          obtain ⟨h0, h2⟩ := hg
          refine ⟨by have := hc.n; omega, ?_⟩
          rcases h2 with h2 | ⟨b, o, e, z, g1, g2, g3⟩
          · exact .inl h2
          · exact .inr ⟨b, o, e, z, g1, by rw [hc.lo k hk]; exact g2, g3⟩
        | _ => exact hg
  | sl i k s xs h =>
    intro u hr
    cases hr with
    | sl _ _ _ _ h1 hg =>
      refine .sl _ _ _ _ (by rw [hc.A]; exact h1) ?_
      cases u with
      | slice a m cap =>
        obtain ⟨h0, h2⟩ := hg
        refine ⟨by have := hc.n; have := (List.getElem?_eq_some_iff.1 h).1; omega, ?_⟩
        rcases h2 with h2 | ⟨b, o, e, z, g1, g2, g3⟩
        · exact .inl h2
        · exact .inr ⟨b, o, e, z, g1, by rw [hc.hi i k h]; exact g2, g3⟩
      | _ => exact hg
  | slN g s xs =>
    intro u hr
    cases hr with
    | sl _ _ _ _ h1 hg => exact .sl _ _ _ _ (by rw [hc.A]; exact h1) trivial
  | eptr s d =>
    intro u hr
    cases hr with
    | eptr _ _ b o h => exact .eptr _ _ b o (by rw [hc.A]; exact h)
  | ptr0 id off h =>
    intro u hr
    cases hr with
    | ptr _ _ b e hγ => exact .ptr _ _ b e (by rw [hc.lo _ h]; exact hγ)
  | ptr i id off h =>
    intro u hr
    cases hr with
    | ptr _ _ b e hγ => exact .ptr _ _ b e (by rw [hc.hi _ _ h]; exact hγ)
  | vs0 id off s l h =>
    intro u hr
    cases hr with
    | vs _ _ _ _ cap b e hγ hcc hz => exact .vs _ _ _ _ cap b e (by rw [hc.lo _ h]; exact hγ) hcc hz
    | vsN => exact .vsN _ _ _ _ (by have := hc.n; omega)
  | vs i id off s l h =>
    intro u hr
    cases hr with
    | vs _ _ _ _ cap b e hγ hcc hz => exact .vs _ _ _ _ cap b e (by rw [hc.hi _ _ h]; exact hγ) hcc hz
    | vsN => exact .vsN _ _ _ _ (by have := hc.n; have := (List.getElem?_eq_some_iff.1 h).1; omega)
  | mp0 id h =>
    intro u hr
    cases hr with
    | mp _ b e hγ => exact .mp _ b e (by rw [hc.lo _ h]; exact hγ)
  | mp i id h =>
    intro u hr
    cases hr with
    | mp _ b e hγ => exact .mp _ b e (by rw [hc.hi _ _ h]; exact hγ)
  | fn f a b a' b' h1 h2 _ _ ih3 ih4 =>
    intro u hr
    cases hr with
    | fn _ _ _ vs ws k1 k2 k3 k4 =>
      refine .fn _ _ _ vs ws (by omega) (by omega) (fun j t v g1 g2 => ?_) fun j t v g1 g2 => ?_
      · have hj : j < a.length := by rw [← h1]; exact (List.getElem?_eq_some_iff.1 g1).1
        exact ih3 j _ t (List.getElem?_eq_getElem hj) g1 (k3 j _ v (List.getElem?_eq_getElem hj) g2)
      · have hj : j < b.length := by rw [← h2]; exact (List.getElem?_eq_some_iff.1 g1).1
        exact ih4 j _ t (List.getElem?_eq_getElem hj) g1 (k4 j _ v (List.getElem?_eq_getElem hj) g2)
  | agg a a' h1 _ ih =>
    intro u hr
    cases hr with
    | agg _ vs k1 k3 =>
      refine .agg _ vs (by omega) fun j t v g1 g2 => ?_
      have hj : j < a.length := by rw [← h1]; exact (List.getElem?_eq_some_iff.1 g1).1
      exact ih j _ t (List.getElem?_eq_getElem hj) g1 (k3 j _ v (List.getElem?_eq_getElem hj) g2)
  | tup a a' h1 _ ih =>
    intro u hr
    cases hr with
    | tup _ vs k1 k3 =>
      refine .tup _ vs (by omega) fun j t v g1 g2 => ?_
      have hj : j < a.length := by rw [← h1]; exact (List.getElem?_eq_some_iff.1 g1).1
      exact ih j _ t (List.getElem?_eq_getElem hj) g1 (k3 j _ v (List.getElem?_eq_getElem hj) g2)
  | unk t => intro u _; exact .unk _
/-- What was so before and reads the same behind: the ids in it are all old. -/
theorem Ren.old {c c1 c2 : Cx} {w w1 : World} {n : Nat} {L : List Nat} (hc : CxR n L c1 c2) (hn : c.n = n) (hd : ∀ id x, c.γ id = some x → id < n) {t : TV} {v0 : Value} (h0 : RdT c w t v0) : ∀ {v : Value}, RdT c1 w1 t v → RdT c2 w1 t v := by
  induction h0 with
  | lit v => intro u hr; rw [hr.lit_inv]; exact .lit _
  | sl g s xs v0 _ hg =>
    intro u hr
    refine (Ren.sl0 g s xs ?_).ok hc hr
    cases g with
    | none => exact .inl rfl
    | full => exact .inr (.inl rfl)
    | own k =>
      refine .inr (.inr ⟨k, rfl, ?_⟩)
      cases v0 with
      | slice a m cap => exact hn ▸ hg.1
      | _ => exact hg.elim
  | vs id off s len cap b e hγ _ _ => intro u hr; exact (Ren.vs0 id off s len (hd _ _ hγ)).ok hc hr
  | vsN id off s a hn2 => intro u hr; exact (Ren.vs0 id off s 0 (by omega)).ok hc hr
  | ptr id off b e hγ => intro u hr; exact (Ren.ptr0 id off (hd _ _ hγ)).ok hc hr
  | eptr s d b o _ => intro u hr; exact (Ren.eptr s d).ok hc hr
  | mp id b e hγ => intro u hr; exact (Ren.mp0 id (hd _ _ hγ)).ok hc hr
  | fn f first cap vs ws h1 h2 _ _ ih3 ih4 =>
    intro u hr
    cases hr with
    | fn _ _ _ vs' ws' k1 k2 k3 k4 =>
      refine .fn _ _ _ vs' ws' k1 k2 (fun j t v g1 g2 => ?_) fun j t v g1 g2 => ?_
      · have hj : j < vs.size := by rw [h1]; exact (List.getElem?_eq_some_iff.1 g1).1
        exact ih3 j t _ g1 (Array.getElem?_eq_getElem hj) (k3 j t v g1 g2)
      · have hj : j < ws.size := by rw [h2]; exact (List.getElem?_eq_some_iff.1 g1).1
        exact ih4 j t _ g1 (Array.getElem?_eq_getElem hj) (k4 j t v g1 g2)
  | agg cs vs hl _ ih =>
    intro u hr
    cases hr with
    | agg _ vs' k1 k3 =>
      refine .agg _ vs' k1 fun j t v g1 g2 => ?_
      have hj : j < vs.size := by rw [hl]; exact (List.getElem?_eq_some_iff.1 g1).1
      exact ih j t _ g1 (Array.getElem?_eq_getElem hj) (k3 j t v g1 g2)
  | tup cs vs hl _ ih =>
    intro u hr
    cases hr with
    | tup _ vs' k1 k3 =>
      refine .tup _ vs' k1 fun j t v g1 g2 => ?_
      have hj : j < vs.size := by rw [hl]; exact (List.getElem?_eq_some_iff.1 g1).1
      exact ih j t _ g1 (Array.getElem?_eq_getElem hj) (k3 j t v g1 g2)
  | unk v => intro u _; exact .unk _
def newCx (n : Nat) (L : List Nat) (c : Cx) : Cx := { A := c.A, γ := fun id => if id < n then c.γ id else (L[id - n]?).bind c.γ, n := n + L.length }
theorem newCx_ok (n : Nat) (L : List Nat) (c : Cx) : CxR n L c (newCx n L c) := by
  refine ⟨rfl, fun id h => by simp [newCx, h], fun i k h => ?_, rfl⟩
  have h1 : ¬ (n + i < n) := by omega
  have h2 : n + i - n = i := by omega
  simp only [newCx]
  rw [if_neg h1, h2, h]; rfl
/-- The state behind, its new objects called anew. -/
structure Fgt (S S1 : TS) (L : List Nat) (S2 : TS) : Prop where
  n : S2.n = S.n + L.length
  nd : L.Nodup
  ge : ∀ k ∈ L, S.n ≤ k
  lo : ∀ id, id < S.n → (S2.objs id = S.objs id ∧ S1.objs id = S.objs id) ∨ RenO S.n L (S1.objs id) (S2.objs id)
  hi : ∀ (i k : Nat), L[i]? = some k → RenO S.n L (S1.objs k) (S2.objs (S.n + i))
  wf : wfS S2
theorem RenO.live {n : Nat} {L : List Nat} {o o' : TObj} (h : RenO n L o o') (hl : o'.live = true) : o.live = true := by
  cases h <;> first | rfl | cases hl
theorem objOk_ren {w0 w : World} {n : Nat} {L : List Nat} {c c2 : Cx} (hc : CxR n L c c2) {k id : Nat} (hγ : c2.γ id = c.γ k) {o o' : TObj} (hr : RenO n L o o') (h : ObjOk w0 c w k o) : ObjOk w0 c2 w id o' := by
  cases hr with
  | gone => trivial
  | lin => exact fun b e hb => by rw [hγ] at hb; have := h b e hb; rw [hc.A]; exact this
  | cells e a a' h1 h3 =>
    refine ⟨fun hn => ?_, fun b z hz => ?_⟩
    · rw [hγ] at hn
      have := h.1 hn
      subst this
      exact List.eq_nil_of_length_eq_zero (by simpa using h1)
    rw [hγ] at hz
    obtain ⟨g2, ⟨arr, fr, g3, gz, gl⟩, gf, g4, g5⟩ := h.2 b z hz
    refine ⟨g2, ⟨arr, fr, g3, gz, by rw [h1]; exact gl⟩, gf, fun j x hx => ?_, by rw [hc.A]; exact g5⟩
    have hj : j < a.length := by rw [← h1]; exact (List.getElem?_eq_some_iff.1 hx).1
    obtain ⟨v, k1, k3⟩ := g4 j _ (List.getElem?_eq_getElem hj)
    exact ⟨v, k1, (h3 j _ x (List.getElem?_eq_getElem hj) hx).ok hc k3⟩
  | map a a' clock h1 h3 =>
    obtain ⟨b, z, g1, g2, ents, g3, g4, g5⟩ := h
    refine ⟨b, z, by rw [hγ]; exact g1, g2, ents, g3, by omega, fun j x m hx hm => ?_⟩
    have hj : j < a.length := by rw [← h1]; exact (List.getElem?_eq_some_iff.1 hx).1
    obtain ⟨k1, k0, k2⟩ := g5 j _ m (List.getElem?_eq_getElem hj) hm
    obtain ⟨q1, q0, q2⟩ := h3 j _ x (List.getElem?_eq_getElem hj) hx
    exact ⟨by rw [q1]; exact k1, by rw [q0]; exact k0, q2.ok hc k2⟩
theorem objOk_old {w0 w w1 : World} {c c1 c2 : Cx} {n : Nat} {L : List Nat} (hc : CxR n L c1 c2) (hn : c.n = n) (hd : ∀ id x, c.γ id = some x → id < n) {id : Nat} (hi : id < n) {o : TObj} (h0 : ObjOk w0 c w id o) (h : ObjOk w0 c1 w1 id o) : ObjOk w0 c2 w1 id o := by
  have hγ := hc.lo id hi
  cases o with
  | gone => trivial
  | lin => exact fun b e hb => by rw [hγ] at hb; have := h b e hb; rw [hc.A]; exact this
  | cells e a =>
    refine ⟨fun hn => h.1 (by rw [← hγ]; exact hn), fun b z hz => ?_⟩
    rw [hγ] at hz
    obtain ⟨g2, g3, gf, g4, g5⟩ := h.2 b z hz
    refine ⟨g2, g3, gf, fun j x hx => ?_, by rw [hc.A]; exact g5⟩
    obtain ⟨v, k1, k3⟩ := g4 j x hx
    cases hc0 : c.γ id with
    | none => have := h0.1 hc0; subst this; simp at hx
    | some q =>
      obtain ⟨b0, z0⟩ := q
      obtain ⟨_, _, _, q4, _⟩ := h0.2 b0 z0 hc0
      obtain ⟨v0, _, q3⟩ := q4 j x hx
      exact ⟨v, k1, Ren.old hc hn hd q3 k3⟩
  | map a clock =>
    obtain ⟨b, z, g1, g2, ents, g3, g4, g5⟩ := h
    obtain ⟨_, _, _, _, ents0, _, q4, q5⟩ := h0
    refine ⟨b, z, by rw [hγ]; exact g1, g2, ents, g3, g4, fun j x m hx hm => ?_⟩
    obtain ⟨k1, k0, k2⟩ := g5 j x m hx hm
    have hj : j < ents0.size := by rw [q4]; exact (List.getElem?_eq_some_iff.1 hx).1
    exact ⟨k1, k0, Ren.old hc hn hd (q5 j x _ hx (Array.getElem?_eq_getElem hj)).2.2 k2⟩
  | iter mm since seen last =>
    obtain ⟨b, z, r, g1, g0, g2, g3, g4⟩ := h
    obtain ⟨_, _, _, _, _, _, _, q4⟩ := h0
    refine ⟨b, z, r, by rw [hγ]; exact g1, g0, g2, g3, ?_⟩
    cases mm with
    | none => exact g4
    | some k =>
      obtain ⟨b2, e2, h5, h6⟩ := g4
      obtain ⟨_, _, _, h8⟩ := q4
      exact ⟨b2, e2, h5, by rw [hc.lo _ (hd _ _ h8)]; exact h6⟩
theorem Ok.forget {E : Env} {w0 : World} {c c1 : Cx} {S S1 S2 : TS} {w w1 : World} {L : List Nat} (hk : Ok E w0 c S w) (hk1 : Ok E w0 c1 S1 w1) (m : Mono c w c1 w1) (hf : Fgt S S1 L S2) :
    Ok E w0 (newCx S.n L c1) S2 w1 ∧ Mono c w (newCx S.n L c1) w1 := by
  have hc := newCx_ok S.n L c1
  have hd : ∀ id x, c.γ id = some x → id < S.n := hk.rel.dom
  have objAll : ∀ id, ObjOk w0 c1 w1 id (S1.objs id) := by
    intro id
    rcases Nat.lt_or_ge id S1.n with h | h
    · exact hk1.rel.obj id h
    · rw [hk1.rel.wf id h]; trivial
  have src : ∀ id, (S2.objs id).live = true → ∃ k, (newCx S.n L c1).γ id = c1.γ k ∧ (S1.objs k).live = true ∧ ((id < S.n ∧ k = id) ∨ (S.n ≤ id ∧ L[id - S.n]? = some k)) := by
    intro id hl
    rcases Nat.lt_or_ge id S.n with h | h
    · refine ⟨id, hc.lo id h, ?_, .inl ⟨h, rfl⟩⟩
      rcases hf.lo id h with ⟨g1, g2⟩ | g
      · rw [g2, ← g1]; exact hl
      · exact g.live hl
    · have hlt : id < S2.n := by
        rcases Nat.lt_or_ge id S2.n with h' | h'
        · exact h'
        · rw [hf.wf id h'] at hl; cases hl
      have hn := hf.n
      have hi : id - S.n < L.length := by omega
      obtain ⟨i, rfl⟩ : ∃ i, id = S.n + i := ⟨id - S.n, by omega⟩
      have e : S.n + i - S.n = i := by omega
      rw [e] at hi ⊢
      have := List.getElem?_eq_getElem hi
      exact ⟨L[i], hc.hi i _ this, (hf.hi i _ this).live hl, .inr ⟨by omega, this⟩⟩
  have m' : Mono c w (newCx S.n L c1) w1 := ⟨m.A, m.cell, fun id x hx => by rw [hc.lo id (hd _ _ hx)]; exact m.γ _ _ hx, by rw [hc.n, hk.rel.cn]; omega⟩
  refine ⟨⟨⟨hk1.rel.below, ?_, ?_, ?_, hk1.rel.cell, hf.wf, by rw [hc.n, hf.n]⟩, fun g => (hk.glob g).step m'⟩, m'⟩
  · intro id x hx
    rw [hf.n]
    rcases Nat.lt_or_ge id S.n with h | h
    · omega
    · have : ((L[id - S.n]?).bind c1.γ) = some x := by
        have := hx
        unfold newCx at this
        simp only at this
        rw [if_neg (by omega)] at this
        exact this
      cases h1 : L[id - S.n]? with
      | none => rw [h1] at this; cases this
      | some k => have := (List.getElem?_eq_some_iff.1 h1).1; omega
  · intro id hid
    rcases Nat.lt_or_ge id S.n with h | h
    · rcases hf.lo id h with ⟨g1, g2⟩ | g
      · rw [g1]
        have h1 := objAll id
        rw [g2] at h1
        exact objOk_old hc hk.rel.cn hd h (hk.rel.obj id h) h1
      · exact objOk_ren hc (hc.lo id h) g (objAll id)
    · obtain ⟨i, rfl⟩ : ∃ i, id = S.n + i := ⟨id - S.n, by omega⟩
      have hn := hf.n
      have hi : i < L.length := by omega
      have := List.getElem?_eq_getElem hi
      exact objOk_ren hc (hc.hi i _ this) (hf.hi i _ this) (objAll _)
  · intro i j b e e' hi hj hli hlj hbi hbj
    obtain ⟨k, g1, g2, g3⟩ := src i hli
    obtain ⟨k', q1, q2, q3⟩ := src j hlj
    rw [g1] at hbi
    rw [q1] at hbj
    have hkk := hk1.rel.inj k k' b e e' (hk1.rel.live_lt g2) (hk1.rel.live_lt q2) g2 q2 hbi hbj
    subst hkk
    rcases g3 with ⟨a1, a2⟩ | ⟨a1, a2⟩
    · rcases q3 with ⟨b1, b2⟩ | ⟨b1, b2⟩
      · omega
      · have := hf.ge k (List.mem_of_getElem? b2); omega
    · rcases q3 with ⟨b1, b2⟩ | ⟨b1, b2⟩
      · have := hf.ge k (List.mem_of_getElem? a2); omega
      · obtain ⟨p1, p2⟩ := List.getElem?_eq_some_iff.1 a2
        obtain ⟨r1, r2⟩ := List.getElem?_eq_some_iff.1 b2
        have := (List.getElem_inj (i := i - S.n) (j := j - S.n) (h₀ := p1) (h₁ := r1) hf.nd).1 (by rw [p2, r2])
        omega
theorem Fgt.none {S S1 : TS} (hw : wfS S) (h : Keep S S1) : Fgt S S1 [] S :=
  ⟨by simp, List.nodup_nil, fun k hk => (by cases hk), fun id hi => .inl ⟨rfl, h.2 id hi⟩, fun i k h => (by simp at h), hw⟩
theorem ESem.forget {E : Env} {o : Oper} {T : Nat → TV} {S : TS} {R R' : TV → TS → Prop} (h : ESem E o T S R)
    (hr : ∀ t S1, wfS S → R t S1 → ∃ L t' S2, Fgt S S1 L S2 ∧ Ren S.n L t t' ∧ R' t' S2) : ESem E o T S R' := by
  intro w0 c w a hk ho next Q hn
  refine h w0 c w a hk ho next Q fun v w' hf => hn v w' ?_
  obtain ⟨t, c1, S1, h1, h2, h3, h4⟩ := hf
  obtain ⟨L, t', S2, hf, hrn, hR⟩ := hr t S1 hk.rel.wf h4
  obtain ⟨g1, g2⟩ := hk.forget h1 h2 hf
  exact ⟨t', _, S2, g1, g2, hrn.ok (newCx_ok _ _ _) h3, hR⟩
end Go.Proofs.YtlljknmojafkoaaGreatDoor.TL
namespace Go.Proofs.YtlljknmojafkoaaGreatDoor.TL
open Go.RowKit
/-- All that an operation waits for has been carried out. -/
def Up (o : Oper) (listed : Array Bool) : Prop := ∀ e ∈ o.after, Region.binds .any e = true → listed.getD e.on false = true
def DC (ops : Array Oper) (listed : Array Bool) : Prop := ∀ i o, ops[i]? = some o → listed.getD i false = true → Up o listed
def maskOf (acc : Array Nat) (o : Oper) : Nat := o.after.foldl (fun s e => if Region.binds .any e then s ||| 2 ^ e.on ||| acc.getD e.on 0 else s) 0
theorem mask_list (acc : Array Nat) (k : Nat) : ∀ (l : List Edge) (s : Nat), (l.foldl (fun s e => if Region.binds .any e then s ||| 2 ^ e.on ||| acc.getD e.on 0 else s) s).testBit k = true →
    s.testBit k = true ∨ ∃ e ∈ l, Region.binds .any e = true ∧ (e.on = k ∨ (acc.getD e.on 0).testBit k = true)
  | [], s, h => .inl h
  | e :: l, s, h => by
    simp only [List.foldl_cons] at h
    rcases mask_list acc k l _ h with h1 | ⟨e', he, hb, h1⟩
    · split at h1
      · rename_i hb
        rw [Nat.testBit_or, Nat.testBit_or, Bool.or_eq_true, Bool.or_eq_true] at h1
        rcases h1 with (h1 | h1) | h1
        · exact .inl h1
        · rw [Nat.testBit_two_pow] at h1
          exact .inr ⟨e, by simp, hb, .inl (by simpa using h1)⟩
        · exact .inr ⟨e, by simp, hb, .inr h1⟩
      · exact .inl h1
    · exact .inr ⟨e', List.mem_cons_of_mem _ he, hb, h1⟩
/-- What stands ahead of an operation has been carried out when it comes up. -/
theorem before_forced (ops : Array Oper) (listed : Array Bool) (hdc : DC ops listed) : ∀ i k o, ops[i]? = some o → Up o listed → ((Region.before ops).getD i 0).testBit k = true → listed.getD k false = true := by
  have key : ∀ (l : List Oper) (acc : Array Nat) (m : Nat), acc.size = m → (∀ j, j < l.length → l[j]? = ops[m + j]?) →
      (∀ i k o, i < m → ops[i]? = some o → Up o listed → (acc.getD i 0).testBit k = true → listed.getD k false = true) →
      ∀ i k o, i < m + l.length → ops[i]? = some o → Up o listed → ((l.foldl (fun acc o => acc.push (maskOf acc o)) acc).getD i 0).testBit k = true → listed.getD k false = true := by
    intro l
    induction l with
    | nil => intro acc m hm _ h i k o hi; exact h i k o (by simpa using hi)
    | cons x l ih =>
      intro acc m hm hops h i k o hi
      simp only [List.foldl_cons]
      refine ih (acc.push (maskOf acc x)) (m + 1) (by simp [hm]) (fun j hj => ?_) ?_ i k o (by simpa [Nat.add_assoc, Nat.add_comm 1] using hi)
      · have := hops (j + 1) (by simpa using hj)
        rw [show m + 1 + j = m + (j + 1) by omega, ← this]; simp
      · intro i k o hi ho hu hb
        by_cases him : i = m
        · subst him
          have hx : some x = ops[i]? := by simpa using hops 0 (by simp)
          rw [ho] at hx; injection hx with hx; subst hx
          rw [Array.getD_eq_getD_getElem?, Array.getElem?_push] at hb
          rw [if_pos hm.symm] at hb
          simp only [Option.getD_some] at hb
          unfold maskOf at hb
          rw [← Array.foldl_toList] at hb
          rcases mask_list acc k _ 0 hb with h1 | ⟨e, he, hbd, h1⟩
          · simp at h1
          · have hel := hu e (by simpa using he) hbd
            rcases h1 with rfl | h1
            · exact hel
            · have hlt : e.on < i := by
                rcases Nat.lt_or_ge e.on i with h | h
                · exact h
                · rw [Array.getD_eq_getD_getElem?, Array.getElem?_eq_none (by omega)] at h1; simp at h1
              have hex : ∃ oe, ops[e.on]? = some oe := by
                have hil : i < ops.size := (Array.getElem?_eq_some_iff.1 ho).1
                exact ⟨ops[e.on]'(by omega), Array.getElem?_eq_getElem (by omega)⟩
              obtain ⟨oe, hoe⟩ := hex
              exact h e.on k oe hlt hoe (hdc e.on oe hoe hel) h1
        · have hi' : i < m := by omega
          rw [Array.getD_eq_getD_getElem?, Array.getElem?_push, if_neg (by omega)] at hb
          exact h i k o hi' ho hu (by rw [Array.getD_eq_getD_getElem?]; exact hb)
  intro i k o ho hu hb
  have hil : i < ops.size := (Array.getElem?_eq_some_iff.1 ho).1
  have hbe : Region.before ops = ops.toList.foldl (fun acc o => acc.push (maskOf acc o)) #[] := by
    unfold Region.before
    rw [← Array.foldl_toList]
    rfl
  rw [hbe] at hb
  exact key ops.toList #[] 0 rfl (fun j hj => by simp) (fun i _ _ hi => by omega) i k o (by simpa using hil) ho hu hb
abbrev dep (ops : Array Oper) (i k : Nat) : Bool := ((Region.before ops).getD i 0).testBit k
def isQ (k : Nat) : Bool := k == 0 || k == 3
/-- An entry of the order: which operation; 0: a quiet one, 3: one that may be taken at any time, 1: another one, 2: another one behind which nothing that stands ahead can still come, 4: another one behind which of what stands ahead only operations that look at no memory can still come, 10 + 4 j: another one that may also come behind the operation j; 11 + 4 j: the same, and behind it nothing that stands ahead can still come; 12 + 4 j: another one behind which of what stands ahead only what looks at no memory can still come, and the load j of a variable that stays as it is. -/
abbrev Ent2 := Nat × Nat
def isDep (k : Nat) : Bool := k == 2 || (decide (10 ≤ k) && (k - 10) % 4 == 1)
def isKeep (k : Nat) : Bool := decide (10 ≤ k) && (k - 10) % 4 == 2
def okK (k : Nat) : Bool := decide (k ≤ 4) || isKeep k
def edgeIn (o : Oper) (l : List Nat) : Bool := o.after.any fun e => Region.binds .any e && l.contains e.on
def pureAt (ops : Array Oper) (q : Nat) : Bool := match ops[q]? with | some oq => pureOp oq.op | none => false
/-- A load of a variable whose address is known when it is taken. -/
def loadAt (ops : Array Oper) (q : Nat) : Bool :=
  match ops[q]? with
  | some { op := .load _ (.tmp y), guard := none, dst := dq, .. } => dq != some y && (List.range ops.size).all fun e => e == q || (ops[e]?).bind (·.dst) != some y || dep ops q e
  | _ => false
/-- A conversion; of numbers, if the walk shows that. -/
def convAt (ops : Array Oper) (q : Nat) : Bool :=
  match ops[q]? with
  | some { op := .convert _ _ (.tmp y), guard := none, dst := dq, .. } => dq != some y && (List.range ops.size).all fun e => e == q || (ops[e]?).bind (·.dst) != some y || dep ops q e
  | _ => false
/-- The order is one that serves. -/
def chkL (ops : Array Oper) : List Nat → List Ent2 → Bool
  | _, [] => true
  | ahead, (i, k) :: r =>
    match ops[i]? with
    | none => false
    | some o =>
      (o.after.all fun e => !Region.binds .any e || ahead.contains e.on) &&
      (r.all fun q => !dep ops i q.1) &&
      (isQ k || (r.all fun q => (decide (10 ≤ k) && decide ((k - 10) % 4 ≤ 1) && q.1 == (k - 10) / 4) || match ops[q.1]? with | some oq => edgeIn oq (i :: r.map (·.1)) | none => false)) &&
      (!isDep k || ahead.all fun q => dep ops i q) &&
      (k != 4 || ahead.all fun q => dep ops i q || pureAt ops q) &&
      (!isKeep k || ahead.all fun q => dep ops i q || pureAt ops q || (q == (k - 10) / 4 && loadAt ops q) || convAt ops q) &&
      chkL ops (i :: ahead) r
def chkP (ops : Array Oper) (l : List Nat) : Bool :=
  l.all fun i => l.all fun k => i == k || (match ops[i]?, ops[k]? with
    | some oi, some ok => (match oi.dst with
      | some d => (!(ok.looksAt ops).contains d || dep ops i k || dep ops k i) && ok.dst != some d
      | none => true)
    | _, _ => false)
def noDup : List Nat → Bool
  | [] => true
  | i :: l => !l.contains i && noDup l
def chkD (ops : Array Oper) (l : List Ent2) : Bool :=
  chkL ops [] l && chkP ops (l.map (·.1)) && noDup (l.map (·.1)) && (List.range ops.size).all (fun i => (l.map (·.1)).contains i) && l.all (fun p => decide (p.1 < ops.size) && okK p.2)
/-- .. with one place where either of two operations may come first. -/
def chkD5 (ops : Array Oper) (l : List Ent2) : Bool :=
  chkL ops [] l && chkP ops (l.map (·.1)) && noDup (l.map (·.1)) && (List.range ops.size).all (fun i => (l.map (·.1)).contains i) && l.all (fun p => decide (p.1 < ops.size))
theorem noDup_iff : ∀ {l : List Nat}, noDup l = true → l.Nodup
  | [], _ => List.nodup_nil
  | i :: l, h => by
    simp only [noDup, Bool.and_eq_true] at h
    exact List.nodup_cons.2 ⟨by simpa using h.1, noDup_iff h.2⟩
/-- Operations that leave the state as it is, whenever they are carried out: a slice's literal; a call that says so. -/
def semiT (E : Env) (o : Oper) (T : Nat → TV) (S : TS) (K : TV → Prop) : Prop :=
  match o.op with
  | .buildSlice t n ps => match tiOf E.P t with
    | some { desc := .slice e, .. } => match tiOf E.P e with
      | some j => 0 < j.size ∧ n * j.size ≤ 2 ^ 24 ∧ (match fillT (fun q => some (q * j.size, j.size)) (List.replicate (n * j.size) .unk) (partsT E T ps) with
        | some cs => cs.all flatT = true ∧ (isAggD j.desc = false → j.size = 1) ∧ (match chunks (isAggD j.desc) j.size n cs with
          | some ds => K (.sl .full j.size ds)
          | none => False)
        | none => False)
      | none => False
    | _ => False
  | .call { callee := .value f, args, .. } => match evO E T f with
    | .fn (.func g) first cap => ∃ v, (∀ S', KpL S S' → TCall E g (first ++ args.toList.map (evO E T) ++ cap) S' fun t S'' => t = v ∧ S'' = S') ∧ K v
    | _ => False
  | .convert s d x => match evO E T x, tiOf E.P s, tiOf E.P d with
    | .lit (.string b), some _, some { desc := .slice e, .. } => match tiOf E.P e with
      | some ie => ie.desc = .int .u8 ∧ b.size ≤ LIM ∧ K (.sl .none 1 (bytesD b))
      | none => False
    | _, _, _ => False
  | _ => False
def SStab (E : Env) (o : Oper) (T : Nat → TV) (S : TS) (v : TV) : Prop := (∀ S', wfS S → KpL S S' → ESem E o T S' fun t S'' => t = v ∧ S'' = S') ∧ (pureOp o.op = true → ∀ S', ESem E o T S' fun t S'' => t = v ∧ S'' = S') ∧
  (∀ t x id off, o.op = .load t x → evO E T x = .ptr id off → (∃ e cs, S.objs id = .cells e cs) ∧ ∀ S', S'.objs id = S.objs id → ESem E o T S' fun t S'' => t = v ∧ S'' = S') ∧
  ∀ s d x k n, o.op = .convert s d x → evO E T x = .lit (.int k n) → ∀ S', ESem E o T S' fun t S'' => t = v ∧ S'' = S'
theorem quietT_okL {E : Env} {o : Oper} {T : Nat → TV} {S : TS} {K : TV → Prop} (h : quietT E o T S K) : ∃ v, QStab E o T S v ∧ (∀ t x id off, o.op = .load t x → evO E T x = .ptr id off → (∃ e cs, S.objs id = .cells e cs) ∧ ∀ S', S'.objs id = S.objs id → QSem E o T S' v) ∧ (∀ s d x k n, o.op = .convert s d x → evO E T x = .lit (.int k n) → ∀ S', QSem E o T S' v) ∧ K v := by
  by_cases hl : ∃ t x, o.op = .load t x
  · obtain ⟨t, x, ho⟩ := hl
    have h' : loadT E.P S t (evO E T x) K := by unfold quietT at h; rw [ho] at h; exact h
    unfold loadT at h'
    split at h'
    · exact h'.elim
    · rename_i i hi
      split at h'
      · rename_i id off hx
        split at h'
        · rename_i e cs hobj
          have key : ∀ {v : TV}, (∀ S', S'.objs id = S.objs id → QSem E o T S' v) → QStab E o T S v ∧ (∀ t x id off, o.op = .load t x → evO E T x = .ptr id off → (∃ e cs, S.objs id = .cells e cs) ∧ ∀ S', S'.objs id = S.objs id → QSem E o T S' v) := fun hv =>
            ⟨⟨fun S' hw hk => hv S' ((hk.obj hw hobj rfl).trans hobj.symm), fun hp => by rw [ho] at hp; cases hp⟩, fun t' x' id' off' ho' hx' => by
              rw [ho] at ho'
              injection ho' with h1 h2
              subst h2
              rw [hx] at hx'
              injection hx' with h3 h4
              subst h3
              exact ⟨⟨_, _, hobj⟩, hv⟩⟩
          split at h'
          · rename_i hag
            have := key (v := .agg ((cs.drop off).take i.size)) fun S' hs => q_loadP ho hi hx (hs.trans hobj) (by rw [if_pos hag]; exact ⟨h'.1, rfl⟩)
            exact ⟨_, this.1, this.2, (fun _ _ _ _ _ hp => by rw [ho] at hp; cases hp), h'.2⟩
          · rename_i hag
            have := key (v := cs.getD off .unk) fun S' hs => q_loadP ho hi hx (hs.trans hobj) (by rw [if_neg hag]; simp [List.getD_eq_getElem?_getD, List.getElem?_eq_getElem h'.1])
            exact ⟨_, this.1, this.2, (fun _ _ _ _ _ hp => by rw [ho] at hp; cases hp), h'.2⟩
        · exact h'.elim
      · rename_i s d hx
        exact ⟨_, .of fun S' => q_loadE ho hi hx h'.1 h'.2.1, (fun t' x' id' off' ho' hx' => by
          rw [ho] at ho'
          injection ho' with h1 h2
          subst h2
          rw [hx] at hx'
          cases hx'), (fun _ _ _ _ _ hp => by rw [ho] at hp; cases hp), h'.2.2⟩
      · exact h'.elim
  · by_cases hc : ∃ s d x k n, o.op = .convert s d x ∧ evO E T x = .lit (.int k n)
    · obtain ⟨s, d, x, k, n, ho, hx⟩ := hc
      unfold quietT at h
      rw [ho] at h
      simp only [hx] at h
      split at h
      · rename_i i j hi hj
        split at h
        · rename_i k' hd
          have hq : ∀ S', QSem E o T S' (.lit (.int k' (k'.wrap n))) := fun S' => q_convInt ho hi hj hd hx
          exact ⟨_, .of hq, (fun t x _ _ ho => absurd ⟨t, x, ho⟩ hl), (fun _ _ _ _ _ _ _ => hq), h⟩
        · rename_i k' hd
          have hq : ∀ S', QSem E o T S' (.lit (.float k' (k'.nearest n))) := fun S' => q_convFlt ho hi hj hd hx
          exact ⟨_, .of hq, (fun t x _ _ ho => absurd ⟨t, x, ho⟩ hl), (fun _ _ _ _ _ _ _ => hq), h⟩
        · exact h.elim
      · exact h.elim
    · obtain ⟨v, h1, h2⟩ := quietT_ok h
      exact ⟨v, h1, (fun t x _ _ ho => absurd ⟨t, x, ho⟩ hl), (fun s d x k n ho hx => absurd ⟨s, d, x, k, n, ho, hx⟩ hc), h2⟩
theorem semiT_ok {E : Env} {o : Oper} {T : Nat → TV} {S : TS} {K : TV → Prop} (h : semiT E o T S K) : ∃ v, SStab E o T S v ∧ K v := by
  unfold semiT at h
  split at h
  · rename_i t n ps ho
    split at h
    · rename_i e sz b z hi
      split at h
      · rename_i j hj
        obtain ⟨h0, h1, h2⟩ := h
        split at h2
        · rename_i cs hf
          obtain ⟨h3, h4, h5⟩ := h2
          split at h5
          · rename_i ds hc
            refine ⟨_, ⟨fun S' _ _ => e_lit ho hi rfl hj h0 h1 hf h3 h4 hc ?_ ⟨rfl, rfl⟩, (fun hp => by rw [ho] at hp; cases hp), (fun _ _ _ _ hp => by rw [ho] at hp; cases hp), fun _ _ _ _ _ hp => by rw [ho] at hp; cases hp⟩, h5⟩
            have := fillT_length _ _ hf
            simp at this
            omega
          · exact h5.elim
        · exact h2.elim
      · exact h.elim
    · exact h.elim
  · rename_i f args ty ho
    split at h
    · rename_i g first cap hf
      obtain ⟨v, h1, h2⟩ := h
      exact ⟨v, ⟨fun S' _ hk => e_call ho hf (h1 S' hk), (fun hp => by rw [ho] at hp; cases hp), (fun _ _ _ _ hp => by rw [ho] at hp; cases hp), fun _ _ _ _ _ hp => by rw [ho] at hp; cases hp⟩, h2⟩
    · exact h.elim
  · rename_i s d x ho
    split at h
    · rename_i b i sz by_ z e hx hs hd
      split at h
      · rename_i ie he
        obtain ⟨h1, h2, h3⟩ := h
        refine ⟨_, ⟨fun S' _ _ => (e_strBytes (K := fun t S'' => t = .sl (.own S'.n) 1 (bytesD b) ∧ S'' = S'.push .lin) ho hs hd rfl he h1 hx h2 ⟨rfl, rfl⟩).forget fun t S1 hw ⟨q1, q2⟩ => ?_, (fun hp => by rw [ho] at hp; cases hp), (fun _ _ _ _ hp => by rw [ho] at hp; cases hp), fun s' d' x' k n hp hxi => by
          rw [ho] at hp
          injection hp with e1 e2 e3
          subst e3
          rw [hx] at hxi
          cases hxi⟩, h3⟩
        refine ⟨[], .sl .none 1 (bytesD b), S', .none hw ?_, ?_, rfl, rfl⟩
        · rw [q2]; exact .push _ _
        · rw [q1]; exact .slN _ _ _
      · exact h.elim
    · exact h.elim
  · exact h.elim
def qsT (E : Env) (o : Oper) (k : Nat) (T : Nat → TV) (S : TS) (K : TV → Prop) : Prop := if k = 3 then semiT E o T S K else quietT E o T S K
theorem qsT_ok {E : Env} {o : Oper} {k : Nat} {T : Nat → TV} {S : TS} {K : TV → Prop} (h : qsT E o k T S K) : ∃ v, SStab E o T S v ∧ K v := by
  unfold qsT at h
  split at h
  · exact semiT_ok h
  · obtain ⟨v, h1, h3, h4, h2⟩ := quietT_okL h
    exact ⟨v, ⟨fun S' hw hk => .of_quiet (h1.1 S' hw hk) ⟨rfl, rfl⟩, fun hp S' => .of_quiet (h1.2 hp S') ⟨rfl, rfl⟩, (fun t x id off ho hx => ⟨(h3 t x id off ho hx).1, fun S' hs => .of_quiet ((h3 t x id off ho hx).2 S' hs) ⟨rfl, rfl⟩⟩), fun s d x k n ho hx S' => .of_quiet (h4 s d x k n ho hx S') ⟨rfl, rfl⟩⟩, h2⟩
/-- The load q's variable stays as it is. -/
def keepAt (E : Env) (ops : Array Oper) (q : Nat) (T : Nat → TV) (S S' : TS) : Prop :=
  match ops[q]? with
  | none => False
  | some o => match o.op with
    | .load _ x => match evO E T x with
      | .ptr id _ => S'.objs id = S.objs id
      | _ => False
    | _ => False
/-- All conversions are of numbers. -/
def convL (E : Env) (T : Nat → TV) : List Oper → Prop
  | [] => True
  | o :: l => (match o.op with
    | .convert _ _ x => (match evO E T x with
      | .lit (.int _ _) => True
      | _ => False)
    | _ => True) ∧ convL E T l
/-- What an operation that is not quiet owes to those that it may overtake. -/
def sideD (E : Env) (ops : Array Oper) (k : Nat) (T : Nat → TV) (S S' : TS) : Prop :=
  if k = 1 then KpL S S' else if isKeep k = true then keepAt E ops ((k - 10) / 4) T S S' ∧ convL E T ops.toList else True
def evD (E : Env) (N : Nat) (ops : Array Oper) : List Ent2 → ((Nat → TV) → TS → Prop) → (Nat → TV) → TS → Prop
  | [], K, T, S => K T S
  | (i, k) :: l, K, T, S =>
    match ops[i]? with
    | none => False
    | some o =>
      match o.guard with
      | none =>
        if isQ k = true then qsT E o k T S fun v => evD E N ops l K (putT T o.dst v) S
        else opT E o T S fun t S' => sideD E ops k T S S' ∧ evD E N ops l K (putT T o.dst t) S'
      | some (j, want) =>
        match (ops[j]?).bind (·.dst) with
        | some d =>
          match T d with
          | .lit b => d < N ∧ (bOf b = some want → if isQ k = true then qsT E o k T S fun v => evD E N ops l K (putT T o.dst v) S else opT E o T S fun t S' => sideD E ops k T S S' ∧ evD E N ops l K (putT T o.dst t) S') ∧
            (bOf b ≠ some want → evD E N ops l K (putT T o.dst (.lit undef)) S)
          | _ => False
        | none => False
/-- The temporaries behind some operations, each with what it yielded. -/
def ov (ops : Array Oper) (T0 : Nat → TV) (d : List (Nat × TV)) : Nat → TV := fun t =>
  match d.find? fun p => ((ops[p.1]?).bind (·.dst)) == some t with
  | some p => p.2
  | none => T0 t
theorem ov_nil (ops : Array Oper) (T0 : Nat → TV) : ov ops T0 [] = T0 := rfl
theorem ov_snoc {ops : Array Oper} {T0 : Nat → TV} {d : List (Nat × TV)} {i : Nat} {o : Oper} {v : TV} (ho : ops[i]? = some o) (hu : ∀ p ∈ d, ∀ t, o.dst = some t → (ops[p.1]?).bind (·.dst) ≠ some t) :
    ov ops T0 (d ++ [(i, v)]) = putT (ov ops T0 d) o.dst v := by
  funext t
  unfold ov
  rw [List.find?_append]
  cases hd : o.dst with
  | none =>
    simp only [putT]
    have : [(i, v)].find? (fun p => ((ops[p.1]?).bind (·.dst)) == some t) = none := by simp [ho, hd]
    rw [this, Option.or_none]
  | some x =>
    simp only [putT, upd]
    by_cases htx : t = x
    · subst htx
      rw [if_pos rfl]
      have h1 : d.find? (fun p => ((ops[p.1]?).bind (·.dst)) == some t) = none := by
        rw [List.find?_eq_none]
        intro p hp
        simp only [beq_iff_eq]
        exact hu p hp t hd
      have h2 : [(i, v)].find? (fun p => ((ops[p.1]?).bind (·.dst)) == some t) = some (i, v) := by simp [ho, hd]
      rw [h1, h2]
      rfl
    · rw [if_neg htx]
      have h2 : [(i, v)].find? (fun p => ((ops[p.1]?).bind (·.dst)) == some t) = none := by
        simp [ho, hd]
        exact fun h => htx h.symm
      rw [h2, Option.or_none]
/-- Two lists that hold the same entries for a temporary. -/
theorem ov_congr {ops : Array Oper} {T0 : Nat → TV} {d e : List (Nat × TV)} {t : Nat} (h1 : ∀ p ∈ d, (ops[p.1]?).bind (·.dst) = some t → p ∈ e) (h2 : ∀ p ∈ e, (ops[p.1]?).bind (·.dst) = some t → p ∈ d)
    (hu : ∀ p ∈ e, ∀ q ∈ e, (ops[p.1]?).bind (·.dst) = some t → (ops[q.1]?).bind (·.dst) = some t → p = q) : ov ops T0 d t = ov ops T0 e t := by
  unfold ov
  cases hd : d.find? (fun p => ((ops[p.1]?).bind (·.dst)) == some t) with
  | none =>
    cases he : e.find? (fun p => ((ops[p.1]?).bind (·.dst)) == some t) with
    | none => rfl
    | some q =>
      have hq := List.mem_of_find?_eq_some he
      have hqt : (ops[q.1]?).bind (·.dst) = some t := by have := List.find?_some he; simpa using this
      have := List.find?_eq_none.1 hd q (h2 q hq hqt)
      simp [hqt] at this
  | some p =>
    have hp := List.mem_of_find?_eq_some hd
    have hpt : (ops[p.1]?).bind (·.dst) = some t := by have := List.find?_some hd; simpa using this
    cases he : e.find? (fun p => ((ops[p.1]?).bind (·.dst)) == some t) with
    | none =>
      have := List.find?_eq_none.1 he p (h1 p hp hpt)
      simp [hpt] at this
    | some q =>
      have hq := List.mem_of_find?_eq_some he
      have hqt : (ops[q.1]?).bind (·.dst) = some t := by have := List.find?_some he; simpa using this
      have := hu p (h1 p hp hpt) q hq hpt hqt
      rw [this]
end Go.Proofs.YtlljknmojafkoaaGreatDoor.TL
namespace Go.Proofs.YtlljknmojafkoaaGreatDoor.TL
open Go.RowKit
theorem chkL_at {ops : Array Oper} : ∀ (pre : List Ent2) (ahead : List Nat) {i k : Nat} {suf : List Ent2}, chkL ops ahead (pre ++ (i, k) :: suf) = true →
    ∃ o, ops[i]? = some o ∧ (∀ e ∈ o.after, Region.binds .any e = true → e.on ∈ ahead ∨ e.on ∈ pre.map (·.1)) ∧ (∀ q ∈ suf, dep ops i q.1 = false) ∧
      (isQ k = false → ∀ q ∈ suf, (10 ≤ k ∧ (k - 10) % 4 ≤ 1 ∧ q.1 = (k - 10) / 4) ∨ ∃ oq, ops[q.1]? = some oq ∧ edgeIn oq (i :: suf.map (·.1)) = true) ∧ (isDep k = true → ∀ q ∈ pre, dep ops i q.1 = true) ∧ (k = 4 → ∀ q ∈ pre, dep ops i q.1 = true ∨ pureAt ops q.1 = true) ∧
      (isKeep k = true → ∀ q ∈ pre, dep ops i q.1 = true ∨ pureAt ops q.1 = true ∨ (q.1 = (k - 10) / 4 ∧ loadAt ops q.1 = true) ∨ convAt ops q.1 = true)
  | [], ahead, i, k, suf, h => by
    simp only [List.nil_append, chkL] at h
    split at h
    · cases h
    · rename_i o ho
      simp only [Bool.and_eq_true, Bool.or_eq_true, List.all_eq_true, beq_iff_eq] at h
      obtain ⟨⟨⟨⟨⟨⟨h1, h2⟩, h3⟩, h4⟩, h6⟩, h7⟩, _⟩ := h
      refine ⟨o, ho, fun e he hb => ?_, fun q hq => ?_, fun hk q hq => ?_, (fun _ q hq => by cases hq), (fun _ q hq => by cases hq), (fun _ q hq => by cases hq)⟩
      · have := Array.all_eq_true_iff_forall_mem.1 h1 e he
        simp only [hb, Bool.not_true, Bool.false_or] at this
        exact .inl (by simpa using this)
      · have := h2 q hq
        simpa using this
      · rcases h3 with h3 | h3
        · rw [h3] at hk; cases hk
        · rcases h3 q hq with this | this
          · exact .inl ⟨of_decide_eq_true this.1.1, of_decide_eq_true this.1.2, this.2⟩
          · split at this
            · rename_i oq hoq; exact .inr ⟨oq, hoq, this⟩
            · cases this
  | (i', k') :: pre, ahead, i, k, suf, h => by
    simp only [List.cons_append, chkL] at h
    split at h
    · cases h
    · rename_i o' ho'
      simp only [Bool.and_eq_true] at h
      obtain ⟨⟨⟨⟨⟨⟨h1, h2⟩, h3⟩, h4⟩, h6⟩, h7⟩, h5⟩ := h
      obtain ⟨o, g1, g2, g3, g4, g5, g6, g7⟩ := chkL_at pre (i' :: ahead) h5
      refine ⟨o, g1, fun e he hb => ?_, g3, g4, fun hk q hq => ?_, fun hk q hq => ?_, fun hk q hq => ?_⟩
      · rcases g2 e he hb with h | h
        · rcases List.mem_cons.1 h with h | h
          · exact .inr (by simp [h])
          · exact .inl h
        · exact .inr (by simp only [List.map_cons, List.mem_cons]; exact .inr h)
      · rcases List.mem_cons.1 hq with h | h
        · subst h
          -- read off the later entry's own check
          have := chkL_two pre (i' :: ahead) h5 hk
          exact this i' (by simp)
        · exact g5 hk q h
      · rcases List.mem_cons.1 hq with h | h
        · subst h
          subst hk
          exact chkL_four pre (i' :: ahead) h5 rfl i' (by simp)
        · exact g6 hk q h
      · rcases List.mem_cons.1 hq with h | h
        · subst h
          exact chkL_keep pre (i' :: ahead) h5 hk i' (by simp)
        · exact g7 hk q h
where
  chkL_two {ops : Array Oper} : ∀ (pre : List Ent2) (ahead : List Nat) {i k : Nat} {suf : List Ent2}, chkL ops ahead (pre ++ (i, k) :: suf) = true → isDep k = true → ∀ q ∈ ahead, dep ops i q = true
    | [], ahead, i, k, suf, h, hk => by
      simp only [List.nil_append, chkL] at h
      split at h
      · cases h
      · simp only [Bool.and_eq_true, Bool.or_eq_true, List.all_eq_true] at h
        obtain ⟨⟨⟨⟨⟨⟨h1, h2⟩, h3⟩, h4⟩, h6⟩, h7⟩, _⟩ := h
        rcases h4 with h4 | h4
        · rw [hk] at h4; simp at h4
        · exact h4
    | (i', k') :: pre, ahead, i, k, suf, h, hk => by
      simp only [List.cons_append, chkL] at h
      split at h
      · cases h
      · simp only [Bool.and_eq_true] at h
        intro q hq
        exact chkL_two pre (i' :: ahead) h.2 hk q (List.mem_cons_of_mem _ hq)
  chkL_four {ops : Array Oper} : ∀ (pre : List Ent2) (ahead : List Nat) {i k : Nat} {suf : List Ent2}, chkL ops ahead (pre ++ (i, k) :: suf) = true → k = 4 → ∀ q ∈ ahead, dep ops i q = true ∨ pureAt ops q = true
    | [], ahead, i, k, suf, h, hk => by
      simp only [List.nil_append, chkL] at h
      split at h
      · cases h
      · simp only [Bool.and_eq_true, Bool.or_eq_true, List.all_eq_true] at h
        obtain ⟨⟨⟨⟨⟨⟨h1, h2⟩, h3⟩, h4⟩, h6⟩, h7⟩, _⟩ := h
        rcases h6 with h6 | h6
        · rw [hk] at h6; simp at h6
        · exact h6
    | (i', k') :: pre, ahead, i, k, suf, h, hk => by
      simp only [List.cons_append, chkL] at h
      split at h
      · cases h
      · simp only [Bool.and_eq_true] at h
        intro q hq
        exact chkL_four pre (i' :: ahead) h.2 hk q (List.mem_cons_of_mem _ hq)

  chkL_keep {ops : Array Oper} : ∀ (pre : List Ent2) (ahead : List Nat) {i k : Nat} {suf : List Ent2}, chkL ops ahead (pre ++ (i, k) :: suf) = true → isKeep k = true → ∀ q ∈ ahead, dep ops i q = true ∨ pureAt ops q = true ∨ (q = (k - 10) / 4 ∧ loadAt ops q = true) ∨ convAt ops q = true
    | [], ahead, i, k, suf, h, hk => by
      simp only [List.nil_append, chkL] at h
      split at h
      · cases h
      · simp only [Bool.and_eq_true, Bool.or_eq_true, List.all_eq_true, beq_iff_eq] at h
        obtain ⟨⟨⟨⟨⟨⟨h1, h2⟩, h3⟩, h4⟩, h6⟩, h7⟩, _⟩ := h
        rcases h7 with h7 | h7
        · rw [hk] at h7; simp at h7
        · intro q hq
          rcases h7 q hq with ((h | h) | h) | h
          · exact .inl h
          · exact .inr (.inl h)
          · exact .inr (.inr (.inl h))
          · exact .inr (.inr (.inr h))
    | (i', k') :: pre, ahead, i, k, suf, h, hk => by
      simp only [List.cons_append, chkL] at h
      split at h
      · cases h
      · simp only [Bool.and_eq_true] at h
        intro q hq
        exact chkL_keep pre (i' :: ahead) h.2 hk q (List.mem_cons_of_mem _ hq)
theorem chkP_at {ops : Array Oper} {l : List Nat} (h : chkP ops l = true) {i k : Nat} (hi : i ∈ l) (hk : k ∈ l) (hne : i ≠ k) {oi ok : Oper} (ho : ops[i]? = some oi) (hok : ops[k]? = some ok) {d : Nat} (hd : oi.dst = some d) :
    (d ∈ ok.looksAt ops → dep ops i k = true ∨ dep ops k i = true) ∧ ok.dst ≠ some d := by
  unfold chkP at h
  have h1 := List.all_eq_true.1 (List.all_eq_true.1 h i hi) k hk
  simp only [Bool.or_eq_true, beq_iff_eq, ho, hok, hd, Bool.and_eq_true] at h1
  rcases h1 with h1 | ⟨h1, h2⟩
  · exact absurd h1 hne
  · refine ⟨fun hm => ?_, fun hh => by rw [hh] at h2; simp at h2⟩
    rcases h1 with (h1 | h1) | h1
    · simp at h1; exact absurd hm h1
    · exact .inl h1
    · exact .inr h1
def Pend (E : Env) (N : Nat) (ops : Array Oper) (i : Nat) (T : Nat → TV) (S : TS) (v : TV) : Prop :=
  ∃ o, ops[i]? = some o ∧ match o.guard with
    | none => SStab E o T S v
    | some (j, want) => ∃ dd b, (ops[j]?).bind (·.dst) = some dd ∧ dd < N ∧ T dd = .lit b ∧ (bOf b = some want → SStab E o T S v) ∧ (bOf b ≠ some want → v = .lit undef)
def pr (d : List (Ent2 × TV)) : List (Nat × TV) := d.map fun p => (p.1.1, p.2)
def up (listed : Array Bool) (d : List (Ent2 × TV)) : List (Ent2 × TV) := d.filter fun p => listed.getD p.1.1 false
structure Dr (E : Env) (N : Nat) (ops : Array Oper) (l : List Ent2) (T0 : Nat → TV) (w0 : World) (listed : Array Bool) (d : List (Ent2 × TV)) (rest : List Ent2) (S : TS) (c : Cx) (w : World) (a : Act) : Prop where
  split : l = d.map (·.1) ++ rest
  size : listed.size = ops.size
  rest : ∀ p ∈ rest, listed.getD p.1 false = false
  dc : DC ops listed
  ok : Ok E w0 c S w
  tm : Tmps c w (ov ops T0 (pr (up listed d))) a
  asz : a.tmps.size = N
  pend : ∀ pre p v suf, d = pre ++ (p, v) :: suf → listed.getD p.1 false = false → isQ p.2 = true ∧ Pend E N ops p.1 (ov ops T0 (pr pre)) S v
theorem SStab.keep {E : Env} {o : Oper} {T : Nat → TV} {S S' : TS} {v : TV} (h : SStab E o T S v) (hw : wfS S) (hk : KpL S S') : SStab E o T S' v :=
  ⟨fun S'' _ hk' => h.1 S'' hw (hk.trans hk'), h.2.1, (fun t x id off ho hx => by
    obtain ⟨⟨e, cs, hc⟩, h2⟩ := h.2.2.1 t x id off ho hx
    have hc' := hk.obj hw hc rfl (by intro hh; cases hh)
    exact ⟨⟨e, cs, hc'⟩, fun S'' hs => h2 S'' (hs.trans (hc'.trans hc.symm))⟩), h.2.2.2⟩
theorem SStab.any {E : Env} {o : Oper} {T : Nat → TV} {S S' : TS} {v : TV} (h : SStab E o T S v) (hp : pureOp o.op = true) : SStab E o T S' v := ⟨fun S'' _ _ => h.2.1 hp S'', h.2.1, (fun t x id off ho => by rw [ho] at hp; cases hp), h.2.2.2⟩
theorem SStab.conv {E : Env} {o : Oper} {T : Nat → TV} {S S' : TS} {v : TV} (h : SStab E o T S v) {s d : TypeId} {x : Operand} {k : IntKind} {n : Int} (ho : o.op = .convert s d x) (hx : evO E T x = .lit (.int k n)) : SStab E o T S' v :=
  ⟨fun S'' _ _ => h.2.2.2 s d x k n ho hx S'', h.2.1, (fun t x id off ho' => by rw [ho] at ho'; cases ho'), h.2.2.2⟩
theorem SStab.kept {E : Env} {o : Oper} {T : Nat → TV} {S S' : TS} {v : TV} (h : SStab E o T S v) (hw : wfS S') {t : TypeId} {x : Operand} {id off : Nat} (ho : o.op = .load t x) (hx : evO E T x = .ptr id off) (hs : S'.objs id = S.objs id) : SStab E o T S' v := by
  obtain ⟨⟨e, cs, hc⟩, h2⟩ := h.2.2.1 t x id off ho hx
  have hc' := hs.trans hc
  refine ⟨fun S'' _ hk => h2 S'' ((hk.obj hw hc' rfl (by intro hh; cases hh)).trans hc.symm), fun hp => by (rw [ho] at hp; cases hp), fun t' x' id' off' ho' hx' => ?_, h.2.2.2⟩
  rw [ho] at ho'
  injection ho' with h3 h4
  subst h4
  rw [hx] at hx'
  injection hx' with h5 h6
  subst h5
  exact ⟨⟨e, cs, hc'⟩, fun S'' hs' => h2 S'' (hs'.trans hs)⟩
theorem Pend.keep {E : Env} {N : Nat} {ops : Array Oper} {i : Nat} {T : Nat → TV} {S S' : TS} {v : TV} (h : Pend E N ops i T S v) (hw : wfS S) (hk : KpL S S') : Pend E N ops i T S' v := by
  obtain ⟨o, h1, h2⟩ := h
  refine ⟨o, h1, ?_⟩
  split at h2
  · exact h2.keep hw hk
  · obtain ⟨dd, b, g1, g2, g3, g4, g5⟩ := h2
    exact ⟨dd, b, g1, g2, g3, fun hb => (g4 hb).keep hw hk, g5⟩
theorem Pend.any {E : Env} {N : Nat} {ops : Array Oper} {i : Nat} {T : Nat → TV} {S S' : TS} {v : TV} (h : Pend E N ops i T S v) (hp : pureAt ops i = true) : Pend E N ops i T S' v := by
  obtain ⟨o, h1, h2⟩ := h
  unfold pureAt at hp
  rw [h1] at hp
  refine ⟨o, h1, ?_⟩
  split at h2
  · exact h2.any hp
  · obtain ⟨dd, b, g1, g2, g3, g4, g5⟩ := h2
    exact ⟨dd, b, g1, g2, g3, fun hb => (g4 hb).any hp, g5⟩
section
variable {E : Env} {N : Nat} {ops : Array Oper} {l : List Ent2} {T0 : Nat → TV} {w0 : World}
theorem mem_pr {d : List (Ent2 × TV)} {x : Nat × TV} (h : x ∈ pr d) : ∃ k, ((x.1, k), x.2) ∈ d := by
  unfold pr at h
  obtain ⟨p, hp, rfl⟩ := List.mem_map.1 h
  exact ⟨p.1.2, hp⟩
/-- Entries of the order are told apart by their numbers. -/
theorem pr_uniq {d : List (Ent2 × TV)} {rest : List Ent2} (hsp : l = d.map (·.1) ++ rest) (hnd : (l.map (·.1)).Nodup) {x y : Nat × TV} (hx : x ∈ pr d) (hy : y ∈ pr d) (h : x.1 = y.1) : x = y := by
  have hd : (d.map fun p => p.1.1).Nodup := by
    rw [hsp, List.map_append, List.map_map] at hnd
    exact (List.nodup_append.1 hnd).1
  unfold pr at hx hy
  obtain ⟨p, hp, rfl⟩ := List.mem_map.1 hx
  obtain ⟨q, hq, rfl⟩ := List.mem_map.1 hy
  simp only at h
  have : p = q := by
    clear hsp hx hy
    induction d with
    | nil => cases hp
    | cons z d ih =>
      rw [List.map_cons, List.nodup_cons] at hd
      rcases List.mem_cons.1 hp with e1 | m1
      · rcases List.mem_cons.1 hq with e2 | m2
        · rw [e1, e2]
        · subst e1; exact (hd.1 (List.mem_map.2 ⟨q, m2, h.symm⟩)).elim
      · rcases List.mem_cons.1 hq with e2 | m2
        · subst e2; exact (hd.1 (List.mem_map.2 ⟨p, m1, h⟩)).elim
        · exact ih hd.2 m1 m2
  rw [this]
theorem pr_dst_uniq {d : List (Ent2 × TV)} {rest : List Ent2} (hsp : l = d.map (·.1) ++ rest) (hnd : (l.map (·.1)).Nodup) (hP : chkP ops (l.map (·.1)) = true) {x y : Nat × TV} (hx : x ∈ pr d) (hy : y ∈ pr d) {t : Nat}
    (h1 : (ops[x.1]?).bind (·.dst) = some t) (h2 : (ops[y.1]?).bind (·.dst) = some t) : x = y := by
  by_cases hxy : x.1 = y.1
  · exact pr_uniq hsp hnd hx hy hxy
  · obtain ⟨ox, hox, hdx⟩ := Option.bind_eq_some_iff.1 h1
    obtain ⟨oy, hoy, hdy⟩ := Option.bind_eq_some_iff.1 h2
    have hml : ∀ z ∈ pr d, z.1 ∈ l.map (·.1) := by
      intro z hz
      obtain ⟨k, hk⟩ := mem_pr hz
      rw [hsp, List.map_append, List.map_map]
      exact List.mem_append_left _ (List.mem_map.2 ⟨_, hk, rfl⟩)
    exact absurd hdy (chkP_at hP (hml x hx) (hml y hy) hxy hox hoy hdx).2
theorem opn_look {c : Cx} {w : World} {X T : Nat → TV} {a : Act} {o : Oper} {S : TS} (hk : Ok E w0 c S w) (ht : Tmps c w X a) (hs : a.tmps.size = N) (hi : opInb N o = true) (hl : ∀ t ∈ o.looksAt ops, X t = T t) : Opn E c w T a o.op := by
  intro x hx
  have hb := List.all_eq_true.1 hi x hx
  have := evO_ok hk ht x (by rw [hs]; exact hb)
  cases x with
  | tmp t =>
    have : X t = T t := hl t (by
      unfold Oper.looksAt
      refine List.mem_append_left _ (List.mem_filterMap.2 ⟨.tmp t, by simpa using hx, rfl⟩))
    simp only [evO, ← this] at *
    assumption
  | _ => exact this
/-- What a waiting operation looks at is what it saw in its turn. -/
theorem agree {listed : Array Bool} {d : List (Ent2 × TV)} {rest : List Ent2} {S : TS} {c : Cx} {w : World} {a : Act} (hD : Dr E N ops l T0 w0 listed d rest S c w a) (hnd : (l.map (·.1)).Nodup) (hL : chkL ops [] l = true) (hP : chkP ops (l.map (·.1)) = true)
    {pre suf : List (Ent2 × TV)} {i k : Nat} {v : TV} {o : Oper} (hd : d = pre ++ ((i, k), v) :: suf) (hul : listed.getD i false = false) (ho : ops[i]? = some o) (hup : Up o listed) {t : Nat} (ht : t ∈ o.looksAt ops) :
    ov ops T0 (pr (up listed d)) t = ov ops T0 (pr pre) t := by
  have hsp : l = pre.map (·.1) ++ (i, k) :: (suf.map (·.1) ++ rest) := by rw [hD.split, hd]; simp
  obtain ⟨o', ho', _, hsuf, _, _, _, _⟩ := chkL_at (pre.map (·.1)) [] (by rw [← hsp]; exact hL)
  have hil : i ∈ l.map (·.1) := by rw [hsp]; simp
  have hpd : ∀ x ∈ pr pre, x ∈ pr d := by
    intro x hx; rw [hd]; unfold pr at *; rw [List.map_append]; exact List.mem_append_left _ hx
  have hml : ∀ z ∈ pr d, z.1 ∈ l.map (·.1) := by
    intro z hz
    obtain ⟨k, hk⟩ := mem_pr hz
    rw [hD.split, List.map_append, List.map_map]
    exact List.mem_append_left _ (List.mem_map.2 ⟨_, hk, rfl⟩)
  refine ov_congr ?_ ?_ ?_
  · intro x hx hxt
    obtain ⟨ox, hox, hdx⟩ := Option.bind_eq_some_iff.1 hxt
    unfold pr up at hx
    obtain ⟨p, hp, rfl⟩ := List.mem_map.1 hx
    obtain ⟨hpd', hpl⟩ := List.mem_filter.1 hp
    simp only at hox
    rw [hd] at hpd'
    rcases List.mem_append.1 hpd' with h | h
    · exact List.mem_map.2 ⟨p, h, rfl⟩
    · rcases List.mem_cons.1 h with h | h
      · subst h; simp only at hpl; rw [hul] at hpl; cases hpl
      · exfalso
        have hne : p.1.1 ≠ i := by intro hh; rw [hh] at hpl; rw [hul] at hpl; cases hpl
        have hpl' : p.1.1 ∈ l.map (·.1) := by
          rw [hsp]; simp only [List.map_append, List.map_cons, List.mem_append, List.mem_cons, List.mem_map]
          exact .inr (.inr (.inl ⟨p.1, ⟨p, h, rfl⟩, rfl⟩))
        rcases (chkP_at hP hpl' hil hne hox ho hdx).1 ht with h1 | h1
        · have := before_forced ops listed hD.dc p.1.1 i ox hox (hD.dc _ _ hox hpl) h1
          rw [hul] at this; cases this
        · have := hsuf p.1 (by simp only [List.mem_append, List.mem_map]; exact .inl ⟨p, h, rfl⟩)
          rw [h1] at this; cases this
  · intro x hx hxt
    obtain ⟨ox, hox, hdx⟩ := Option.bind_eq_some_iff.1 hxt
    unfold pr at hx
    obtain ⟨p, hp, rfl⟩ := List.mem_map.1 hx
    simp only at hox
    have hne : p.1.1 ≠ i := by
      intro hh
      rw [hsp] at hnd
      simp only [List.map_append, List.map_cons, List.map_map] at hnd
      have := (List.nodup_append.1 hnd).2.2 p.1.1 (List.mem_map.2 ⟨p, hp, rfl⟩) i (by simp)
      exact this hh
    have hpl' : p.1.1 ∈ l.map (·.1) := by
      rw [hsp]; simp only [List.map_append, List.map_cons, List.mem_append, List.mem_cons, List.mem_map]
      exact .inl ⟨p.1, ⟨p, hp, rfl⟩, rfl⟩
    have hlp : listed.getD p.1.1 false = true := by
      rcases (chkP_at hP hpl' hil hne hox ho hdx).1 ht with h1 | h1
      · exfalso
        obtain ⟨p1, p2, hpp⟩ := List.append_of_mem hp
        have hsp2 : l = p1.map (·.1) ++ (p.1.1, p.1.2) :: (p2.map (·.1) ++ (i, k) :: (suf.map (·.1) ++ rest)) := by rw [hsp, hpp]; simp
        obtain ⟨_, _, _, hs2, _, _, _, _⟩ := chkL_at (p1.map (·.1)) [] (by rw [← hsp2]; exact hL)
        have := hs2 (i, k) (by simp)
        rw [h1] at this; cases this
      · exact before_forced ops listed hD.dc i p.1.1 o ho hup h1
    unfold pr up
    exact List.mem_map.2 ⟨p, List.mem_filter.2 ⟨by rw [hd]; exact List.mem_append_left _ hp, hlp⟩, rfl⟩
  · intro x hx y hy h1 h2
    exact pr_dst_uniq hD.split hnd hP (hpd x hx) (hpd y hy) h1 h2
/-- The same for the next operation that is not quiet. -/
theorem agreeE {listed : Array Bool} {d : List (Ent2 × TV)} {rest : List Ent2} {S : TS} {c : Cx} {w : World} {a : Act} {i k : Nat} (hD : Dr E N ops l T0 w0 listed d ((i, k) :: rest) S c w a) (hnd : (l.map (·.1)).Nodup) (hL : chkL ops [] l = true) (hP : chkP ops (l.map (·.1)) = true)
    {o : Oper} (ho : ops[i]? = some o) (hup : Up o listed) {t : Nat} (ht : t ∈ o.looksAt ops) :
    ov ops T0 (pr (up listed d)) t = ov ops T0 (pr d) t := by
  have hml : ∀ z ∈ pr d, z.1 ∈ l.map (·.1) := by
    intro z hz
    obtain ⟨k, hk⟩ := mem_pr hz
    rw [hD.split, List.map_append, List.map_map]
    exact List.mem_append_left _ (List.mem_map.2 ⟨_, hk, rfl⟩)
  have hil : i ∈ l.map (·.1) := by rw [hD.split]; simp
  refine ov_congr ?_ ?_ ?_
  · intro x hx _
    unfold pr up at *
    obtain ⟨p, hp, rfl⟩ := List.mem_map.1 hx
    exact List.mem_map.2 ⟨p, (List.mem_filter.1 hp).1, rfl⟩
  · intro x hx hxt
    have hxl := hml x hx
    obtain ⟨ox, hox, hdx⟩ := Option.bind_eq_some_iff.1 hxt
    unfold pr at hx
    obtain ⟨p, hp, rfl⟩ := List.mem_map.1 hx
    simp only at hox hxl
    have hne : p.1.1 ≠ i := by
      intro hh
      have hnd' := hnd
      rw [hD.split] at hnd'
      simp only [List.map_append, List.map_cons, List.map_map] at hnd'
      have := (List.nodup_append.1 hnd').2.2 p.1.1 (List.mem_map.2 ⟨p, hp, rfl⟩) i (by simp)
      exact this hh
    have hlp : listed.getD p.1.1 false = true := by
      rcases (chkP_at hP hxl hil hne hox ho hdx).1 ht with h1 | h1
      · exfalso
        obtain ⟨p1, p2, hpp⟩ := List.append_of_mem hp
        have hsp2 : l = p1.map (·.1) ++ (p.1.1, p.1.2) :: (p2.map (·.1) ++ (i, k) :: rest) := by rw [hD.split, hpp]; simp
        obtain ⟨_, _, _, hs2, _, _, _, _⟩ := chkL_at (p1.map (·.1)) [] (by rw [← hsp2]; exact hL)
        have := hs2 (i, k) (by simp)
        rw [h1] at this; cases this
      · exact before_forced ops listed hD.dc i p.1.1 o ho hup h1
    unfold pr up
    exact List.mem_map.2 ⟨p, List.mem_filter.2 ⟨hp, hlp⟩, rfl⟩
  · intro x hx y hy h1 h2
    exact pr_dst_uniq hD.split hnd hP hx hy h1 h2
end
end Go.Proofs.YtlljknmojafkoaaGreatDoor.TL
namespace Go.Proofs.YtlljknmojafkoaaGreatDoor.TL
open Go.RowKit
section
variable {E : Env} {N : Nat} {ops : Array Oper} {l : List Ent2} {T0 : Nat → TV} {w0 : World}
theorem pr_snoc (d : List (Ent2 × TV)) (p : Ent2) (v : TV) : pr (d ++ [(p, v)]) = pr d ++ [(p.1, v)] := by simp [pr]
theorem Dr.fresh {listed : Array Bool} {d : List (Ent2 × TV)} {rest : List Ent2} {S : TS} {c : Cx} {w : World} {a : Act} {i k : Nat} (hD : Dr E N ops l T0 w0 listed d ((i, k) :: rest) S c w a) (hnd : (l.map (·.1)).Nodup) (hP : chkP ops (l.map (·.1)) = true)
    {o : Oper} (ho : ops[i]? = some o) : ∀ x ∈ pr d, ∀ t, o.dst = some t → (ops[x.1]?).bind (·.dst) ≠ some t := by
  intro x hx t ht hxt
  obtain ⟨ox, hox, hdx⟩ := Option.bind_eq_some_iff.1 hxt
  unfold pr at hx
  obtain ⟨p, hp, rfl⟩ := List.mem_map.1 hx
  simp only at hox
  have hxl : p.1.1 ∈ l.map (·.1) := by
    rw [hD.split, List.map_append, List.map_map]
    exact List.mem_append_left _ (List.mem_map.2 ⟨p, hp, rfl⟩)
  have hil : i ∈ l.map (·.1) := by rw [hD.split]; simp
  have hne : p.1.1 ≠ i := by
    intro hh
    have hnd' := hnd
    rw [hD.split] at hnd'
    simp only [List.map_append, List.map_cons, List.map_map] at hnd'
    exact (List.nodup_append.1 hnd').2.2 p.1.1 (List.mem_map.2 ⟨p, hp, rfl⟩) i (by simp) hh
  exact (chkP_at hP hil hxl (fun h => hne h.symm) ho hox ht).2 hdx
/-- A quiet operation is taken in its turn, though it comes up later. -/
theorem Dr.quiet {listed : Array Bool} {d : List (Ent2 × TV)} {rest : List Ent2} {S : TS} {c : Cx} {w : World} {a : Act} {i k : Nat} (hk0 : isQ k = true) {v : TV} (hD : Dr E N ops l T0 w0 listed d ((i, k) :: rest) S c w a)
    (hp : Pend E N ops i (ov ops T0 (pr d)) S v) : Dr E N ops l T0 w0 listed (d ++ [((i, k), v)]) rest S c w a := by
  have hul := hD.rest (i, k) (by simp)
  have hup : up listed (d ++ [((i, k), v)]) = up listed d := by
    unfold up
    rw [List.filter_append]
    have : [((i, k), v)].filter (fun p : Ent2 × TV => listed.getD p.1.1 false) = [] := by
      simp only [List.filter_cons, List.filter_nil]
      rw [if_neg (by rw [hul]; simp)]
    rw [this, List.append_nil]
  refine ⟨by rw [hD.split]; simp, hD.size, fun p hp => hD.rest p (List.mem_cons_of_mem _ hp), hD.dc, hD.ok, by rw [hup]; exact hD.tm, hD.asz, ?_⟩
  intro pre p u suf h hl
  rcases List.eq_nil_or_concat suf with rfl | ⟨suf', x, rfl⟩
  · have := List.append_inj' h rfl
    obtain ⟨h1, h2⟩ := this
    simp only [List.cons.injEq, Prod.mk.injEq, and_true] at h2
    obtain ⟨rfl, rfl⟩ := h2
    subst h1
    exact ⟨hk0, hp⟩
  · have h' : d ++ [((i, k), v)] = (pre ++ (p, u) :: suf') ++ [x] := by rw [h]; simp
    have := List.append_inj' h' rfl
    exact hD.pend pre p u suf' this.1 hl
theorem Dr.normalT {tl : List Ent2} {K : (Nat → TV) → TS → Prop} (hnd : (l.map (·.1)).Nodup) (hP : chkP ops (l.map (·.1)) = true) {listed : Array Bool} {S : TS} {c : Cx} {w : World} {a : Act} : ∀ (rest : List Ent2) (d : List (Ent2 × TV)), Dr E N ops l T0 w0 listed d (rest ++ tl) S c w a → evD E N ops rest K (ov ops T0 (pr d)) S →
    ∃ d' rest', (∀ p ∈ rest', p ∈ rest) ∧ Dr E N ops l T0 w0 listed d' (rest' ++ tl) S c w a ∧ evD E N ops rest' K (ov ops T0 (pr d')) S ∧ (rest' = [] ∨ ∃ i k r, rest' = (i, k) :: r ∧ isQ k = false)
  | [], d, hD, h => ⟨d, [], fun _ h => h, hD, h, .inl rfl⟩
  | (i, k) :: rest, d, hD, h => by
    by_cases hk : isQ k = true
    · have h0 := h
      unfold evD at h
      split at h
      · exact h.elim
      · rename_i o ho
        have hfr := hD.fresh hnd hP ho
        split at h
        · rename_i hg
          rw [if_pos hk] at h
          obtain ⟨v, h1, h2⟩ := qsT_ok h
          have hD' := hD.quiet hk (v := v) ⟨o, ho, by rw [hg]; exact h1⟩
          rw [← ov_snoc ho hfr] at h2
          rw [← pr_snoc d (i, k) v] at h2
          obtain ⟨d', r', g0, g1⟩ := Dr.normalT hnd hP rest _ hD' h2
          exact ⟨d', r', fun p hp => List.mem_cons_of_mem _ (g0 p hp), g1⟩
        · rename_i j want hg
          split at h
          · rename_i dd hdd
            split at h
            · rename_i b hb
              obtain ⟨hN, h1, h2⟩ := h
              by_cases hbw : bOf b = some want
              · have := h1 hbw
                rw [if_pos hk] at this
                obtain ⟨v, h3, h4⟩ := qsT_ok this
                have hD' := hD.quiet hk (v := v) ⟨o, ho, by rw [hg]; exact ⟨dd, b, hdd, hN, hb, fun _ => h3, fun hh => absurd hbw hh⟩⟩
                rw [← ov_snoc ho hfr] at h4
                rw [← pr_snoc d (i, k) v] at h4
                obtain ⟨d', r', g0, g1⟩ := Dr.normalT hnd hP rest _ hD' h4
                exact ⟨d', r', fun p hp => List.mem_cons_of_mem _ (g0 p hp), g1⟩
              · have h4 := h2 hbw
                have hD' := hD.quiet hk (v := .lit undef) ⟨o, ho, by rw [hg]; exact ⟨dd, b, hdd, hN, hb, fun hh => absurd hh hbw, fun _ => rfl⟩⟩
                rw [← ov_snoc ho hfr] at h4
                rw [← pr_snoc d (i, k) (.lit undef)] at h4
                obtain ⟨d', r', g0, g1⟩ := Dr.normalT hnd hP rest _ hD' h4
                exact ⟨d', r', fun p hp => List.mem_cons_of_mem _ (g0 p hp), g1⟩
            · exact h.elim
          · exact h.elim
    · exact ⟨d, (i, k) :: rest, fun _ h => h, hD, h, .inr ⟨i, k, rest, rfl, by simpa using hk⟩⟩
theorem Dr.normal {K : (Nat → TV) → TS → Prop} (hnd : (l.map (·.1)).Nodup) (hP : chkP ops (l.map (·.1)) = true) {listed : Array Bool} {S : TS} {c : Cx} {w : World} {a : Act} (rest : List Ent2) (d : List (Ent2 × TV)) (hD : Dr E N ops l T0 w0 listed d rest S c w a) (h : evD E N ops rest K (ov ops T0 (pr d)) S) :
    ∃ d' rest', (∀ p ∈ rest', p ∈ rest) ∧ Dr E N ops l T0 w0 listed d' rest' S c w a ∧ evD E N ops rest' K (ov ops T0 (pr d')) S ∧ (rest' = [] ∨ ∃ i k r, rest' = (i, k) :: r ∧ isQ k = false) := by
  obtain ⟨d', r', g0, g1, g2⟩ := Dr.normalT (tl := []) hnd hP rest d (by rw [List.append_nil]; exact hD) h
  rw [List.append_nil] at g1
  exact ⟨d', r', g0, g1, g2⟩
theorem getD_set {listed : Array Bool} {i j : Nat} (hi : i < listed.size) : (listed.setIfInBounds i true).getD j false = if i = j then true else listed.getD j false := by
  rw [Array.getD_eq_getD_getElem?, Array.getD_eq_getD_getElem?, Array.getElem?_setIfInBounds]
  by_cases h : i = j
  · rw [if_pos h, if_pos h, if_pos (by omega)]; rfl
  · rw [if_neg h, if_neg h]
theorem DC.set {listed : Array Bool} (h : DC ops listed) {i : Nat} {o : Oper} (hi : i < listed.size) (ho : ops[i]? = some o) (hu : Up o listed) : DC ops (listed.setIfInBounds i true) := by
  have hmono : ∀ o', Up o' listed → Up o' (listed.setIfInBounds i true) := by
    intro o' h' e he hb
    rw [getD_set hi]
    split
    · rfl
    · exact h' e he hb
  intro j oj hoj hj
  rw [getD_set hi] at hj
  by_cases hij : i = j
  · subst hij
    rw [ho] at hoj; injection hoj with hoj; subst hoj
    exact hmono _ hu
  · rw [if_neg hij] at hj
    exact hmono _ (h j oj hoj hj)
theorem ready_iff {listed : Array Bool} (hs : listed.size = ops.size) {i : Nat} : i ∈ Region.ready .any ops listed ↔ listed.getD i false = false ∧ ∃ o, ops[i]? = some o ∧ Up o listed := by
  unfold Region.ready
  rw [List.mem_filter, List.mem_range]
  constructor
  · rintro ⟨h1, h2⟩
    simp only [Bool.and_eq_true, Bool.not_eq_true'] at h2
    have hg : ops[i]? = some ops[i] := Array.getElem?_eq_getElem h1
    rw [hg] at h2
    simp only [Option.map_some, Option.getD_some] at h2
    refine ⟨?_, _, hg, fun e he hb => ?_⟩
    · have := h2.1
      rw [Array.getD_eq_getD_getElem?, Array.getElem?_eq_getElem (by omega)] at this ⊢
      exact this
    · have := Array.all_eq_true_iff_forall_mem.1 h2.2 e he
      simpa [hb] using this
  · rintro ⟨h1, o, ho, hu⟩
    have hi : i < ops.size := (Array.getElem?_eq_some_iff.1 ho).1
    refine ⟨hi, ?_⟩
    simp only [Bool.and_eq_true, Bool.not_eq_true', ho, Option.map_some, Option.getD_some]
    refine ⟨?_, Array.all_eq_true_iff_forall_mem.2 fun e he => ?_⟩
    · rw [Array.getD_eq_getD_getElem?, Array.getElem?_eq_getElem (by omega)] at h1 ⊢
      exact h1
    · cases hb : Region.binds .any e with
      | false => rfl
      | true => simp [hu e he hb]
theorem up_set {listed : Array Bool} {d : List (Ent2 × TV)} {i : Nat} (hi : i < listed.size) (hd : ∀ p ∈ d, p.1.1 ≠ i) : up (listed.setIfInBounds i true) d = up listed d := by
  unfold up
  apply List.filter_congr
  intro p hp
  rw [getD_set hi, if_neg (fun h => hd p hp h.symm)]
theorem dst_tmps {c : Cx} {w : World} {X X' : Nat → TV} {a : Act} {dst : Option Nat} {v : TV} {u : Value} (ht : Tmps c w X a) (hr : RdT c w v u) (hX : ∀ t, X' t = if dst = some t then v else X t) : Tmps c w X' (a.put dst u) := by
  have := Tmps.put ht (dst := dst) hr
  intro t x hx
  have h1 := this t x hx
  rw [hX]
  cases dst with
  | none => simpa [putT] using h1
  | some d =>
    simp only [putT, upd] at h1
    by_cases htd : t = d
    · subst htd; simpa using h1
    · rw [if_neg htd] at h1
      rw [if_neg (by simp; exact fun h => htd h.symm)]
      exact h1
end
end Go.Proofs.YtlljknmojafkoaaGreatDoor.TL
namespace Go.Proofs.YtlljknmojafkoaaGreatDoor.TL
open Go.RowKit
theorem loadAt_iff {ops : Array Oper} {q : Nat} (h : loadAt ops q = true) : ∃ o t y, ops[q]? = some o ∧ o.op = .load t (.tmp y) ∧ o.guard = none ∧ o.dst ≠ some y ∧ ∀ e, e < ops.size → e = q ∨ (ops[e]?).bind (·.dst) ≠ some y ∨ dep ops q e = true := by
  unfold loadAt at h
  split at h
  · rename_i heq
    simp only [Bool.and_eq_true, bne_iff_ne] at h
    refine ⟨_, _, _, heq, rfl, rfl, h.1, fun e he => ?_⟩
    have := List.all_eq_true.1 h.2 e (List.mem_range.2 he)
    simp only [Bool.or_eq_true, beq_iff_eq, bne_iff_ne] at this
    rcases this with (h | h) | h
    · exact .inl h
    · exact .inr (.inl h)
    · exact .inr (.inr h)
  · cases h
theorem convAt_iff {ops : Array Oper} {q : Nat} (h : convAt ops q = true) : ∃ o s d y, ops[q]? = some o ∧ o.op = .convert s d (.tmp y) ∧ o.guard = none ∧ o.dst ≠ some y ∧ ∀ e, e < ops.size → e = q ∨ (ops[e]?).bind (·.dst) ≠ some y ∨ dep ops q e = true := by
  unfold convAt at h
  split at h
  · rename_i heq
    simp only [Bool.and_eq_true, bne_iff_ne] at h
    refine ⟨_, _, _, _, heq, rfl, rfl, h.1, fun e he => ?_⟩
    have := List.all_eq_true.1 h.2 e (List.mem_range.2 he)
    simp only [Bool.or_eq_true, beq_iff_eq, bne_iff_ne] at this
    rcases this with (h | h) | h
    · exact .inl h
    · exact .inr (.inl h)
    · exact .inr (.inr h)
  · cases h
theorem convL_at {E : Env} {T : Nat → TV} : ∀ {l : List Oper} {o : Oper} {s d : TypeId} {x : Operand}, convL E T l → o ∈ l → o.op = .convert s d x → ∃ k n, evO E T x = .lit (.int k n)
  | [], _, _, _, _, _, h, _ => by cases h
  | p :: l, o, s, d, x, hc, hm, ho => by
    rcases List.mem_cons.1 hm with h | h
    · subst h
      have := hc.1
      rw [ho] at this
      simp only at this
      split at this
      · rename_i k n hx; exact ⟨k, n, hx⟩
      · exact this.elim
    · exact convL_at hc.2 h ho
theorem sideD_kp {E : Env} {ops : Array Oper} {k : Nat} {T : Nat → TV} {S S' : TS} (h : sideD E ops k T S S') (hk : k = 1) : KpL S S' := by
  unfold sideD at h
  rw [if_pos hk] at h
  exact h
theorem sideD_ka {E : Env} {ops : Array Oper} {k : Nat} {T : Nat → TV} {S S' : TS} (h : sideD E ops k T S S') (hk : isKeep k = true) : keepAt E ops ((k - 10) / 4) T S S' ∧ convL E T ops.toList := by
  unfold sideD at h
  rw [if_neg (fun e => by subst e; cases hk), if_pos hk] at h
  exact h
theorem okK_no {k : Nat} (h : okK k = true) (h1 : 10 ≤ k) (h2 : (k - 10) % 4 ≤ 1) : False := by
  simp only [okK, isKeep, Bool.or_eq_true, Bool.and_eq_true, decide_eq_true_eq, beq_iff_eq] at h
  omega
theorem exists_first {listed : Array Bool} : ∀ (l : List Ent2), (∃ p ∈ l, listed.getD p.1 false = false) → ∃ pre p suf, l = pre ++ p :: suf ∧ listed.getD p.1 false = false ∧ ∀ q ∈ pre, listed.getD q.1 false = true
  | [], h => by obtain ⟨p, hp, _⟩ := h; cases hp
  | x :: l, h => by
    cases hx : listed.getD x.1 false with
    | false => exact ⟨[], x, l, rfl, hx, fun q hq => by cases hq⟩
    | true =>
      obtain ⟨p, hp, hpl⟩ := h
      rcases List.mem_cons.1 hp with h1 | h1
      · subst h1; rw [hx] at hpl; cases hpl
      · obtain ⟨pre, p', suf, g1, g2, g3⟩ := exists_first l ⟨p, h1, hpl⟩
        refine ⟨x :: pre, p', suf, by rw [g1]; rfl, g2, fun q hq => ?_⟩
        rcases List.mem_cons.1 hq with h | h
        · rw [h]; exact hx
        · exact g3 q h
theorem count_set {listed : Array Bool} {i : Nat} (hi : i < listed.size) (hu : listed.getD i false = false) : ∀ (L : List Nat), L.Nodup → i ∈ L →
    (L.filter fun j => !(listed.setIfInBounds i true).getD j false).length + 1 = (L.filter fun j => !listed.getD j false).length
  | [], _, h => by cases h
  | x :: L, hn, h => by
    rw [List.nodup_cons] at hn
    by_cases hx : i = x
    · subst hx
      have h1 : (L.filter fun j => !(listed.setIfInBounds i true).getD j false) = L.filter fun j => !listed.getD j false := by
        apply List.filter_congr
        intro j hj
        have hij : ¬ i = j := fun hh => hn.1 (by rw [hh]; exact hj)
        rw [getD_set hi, if_neg hij]
      rw [List.filter_cons, List.filter_cons, getD_set hi, if_pos rfl, hu, h1]
      simp
    · have hm : i ∈ L := by rcases List.mem_cons.1 h with h | h; exact absurd h hx; exact h
      have ih := count_set hi hu L hn.2 hm
      rw [List.filter_cons, List.filter_cons, getD_set hi, if_neg hx]
      split
      · simp only [List.length_cons]; omega
      · exact ih
section
variable {E : Env} {N : Nat} {ops : Array Oper} {l : List Ent2} {T0 : Nat → TV} {w0 : World}
theorem ov_mem {d : List (Nat × TV)} {x : Nat × TV} (hx : x ∈ d) {t : Nat} (ht : (ops[x.1]?).bind (·.dst) = some t) (hu : ∀ y ∈ d, (ops[y.1]?).bind (·.dst) = some t → y = x) : ov ops T0 d t = x.2 := by
  unfold ov
  cases hd : d.find? (fun p => ((ops[p.1]?).bind (·.dst)) == some t) with
  | none =>
    have := List.find?_eq_none.1 hd x hx
    simp [ht] at this
  | some q =>
    have hq := List.mem_of_find?_eq_some hd
    have hqt : (ops[q.1]?).bind (·.dst) = some t := by have := List.find?_some hd; simpa using this
    rw [hu q hq hqt]
theorem wanted_of {c : Cx} {w : World} {X : Nat → TV} {a : Act} {o : Oper} {j dd : Nat} {want : Bool} {b : Value} (ht : Tmps c w X a) (hs : a.tmps.size = N) (hg : o.guard = some (j, want)) (hdd : (ops[j]?).bind (·.dst) = some dd) (hN : dd < N) (hb : X dd = .lit b) :
    Region.wanted o (yielded ops a.tmps) = (bOf b == some want) := by
  have hv : a.tmps[dd]? = some (a.tmps[dd]'(by omega)) := Array.getElem?_eq_getElem (by omega)
  have := ht dd _ hv
  rw [hb] at this
  have hy : yielded ops a.tmps j = bOf b := by
    unfold yielded
    rw [hdd]
    simp only [Option.bind_some, hv, this.lit_inv]
    cases b <;> rfl
  unfold Region.wanted
  rw [hg]
  simp only [hy]
theorem looks_guard {o : Oper} {j dd : Nat} {want : Bool} (hg : o.guard = some (j, want)) (hdd : (ops[j]?).bind (·.dst) = some dd) : dd ∈ o.looksAt ops := by
  unfold Oper.looksAt
  refine List.mem_append_right _ ?_
  rw [hg]
  simp [hdd]
theorem Dr.stepW {listed : Array Bool} {d : List (Ent2 × TV)} {rest : List Ent2} {S : TS} {c c' : Cx} {w w' : World} {a : Act} (hD : Dr E N ops l T0 w0 listed d rest S c w a) (hk : Ok E w0 c' S w') (m : Mono c w c' w') : Dr E N ops l T0 w0 listed d rest S c' w' a :=
  ⟨hD.split, hD.size, hD.rest, hD.dc, hk, hD.tm.step m, hD.asz, hD.pend⟩
/-- A waiting operation has come up. -/
theorem Dr.took {listed : Array Bool} {d : List (Ent2 × TV)} {rest : List Ent2} {S : TS} {c : Cx} {w : World} {a : Act} {i k : Nat} {v : TV} {u : Value} {o : Oper} (hD : Dr E N ops l T0 w0 listed d rest S c w a) (hnd : (l.map (·.1)).Nodup) (hP : chkP ops (l.map (·.1)) = true)
    (hm : ((i, k), v) ∈ d) (ho : ops[i]? = some o) (hup : Up o listed) (hr : RdT c w v u) : Dr E N ops l T0 w0 (listed.setIfInBounds i true) d rest S c w (a.put o.dst u) := by
  have hi : i < listed.size := by rw [hD.size]; exact (Array.getElem?_eq_some_iff.1 ho).1
  have hne : ∀ p ∈ rest, i ≠ p.1 := by
    intro p hp hh
    have hnd' := hnd
    rw [hD.split, List.map_append, List.map_map] at hnd'
    exact (List.nodup_append.1 hnd').2.2 i (List.mem_map.2 ⟨_, hm, rfl⟩) p.1 (List.mem_map.2 ⟨p, hp, rfl⟩) hh
  have hsub : ∀ x ∈ pr (up (listed.setIfInBounds i true) d), x ∈ pr d := by
    intro x hx
    unfold pr up at *
    obtain ⟨p, hp, rfl⟩ := List.mem_map.1 hx
    exact List.mem_map.2 ⟨p, (List.mem_filter.1 hp).1, rfl⟩
  have hmem : (i, v) ∈ pr (up (listed.setIfInBounds i true) d) := by
    unfold pr up
    exact List.mem_map.2 ⟨((i, k), v), List.mem_filter.2 ⟨hm, by rw [getD_set hi, if_pos rfl]⟩, rfl⟩
  have hmd : (i, v) ∈ pr d := hsub _ hmem
  refine ⟨hD.split, by simp [hD.size], fun p hp => by rw [getD_set hi, if_neg (hne p hp)]; exact hD.rest p hp, hD.dc.set hi ho hup, hD.ok, ?_, by rw [put_size]; exact hD.asz, ?_⟩
  · refine dst_tmps hD.tm hr fun t => ?_
    split
    · rename_i ht
      have hit : (ops[(i, v).1]?).bind (·.dst) = some t := by simp [ho, ht]
      exact ov_mem hmem hit fun y hy hyt => pr_dst_uniq hD.split hnd hP (hsub y hy) hmd hyt hit
    · rename_i ht
      refine ov_congr ?_ ?_ ?_
      · intro x hx hxt
        unfold pr up at hx ⊢
        obtain ⟨p, hp, rfl⟩ := List.mem_map.1 hx
        obtain ⟨h1, h2⟩ := List.mem_filter.1 hp
        have hpi : i ≠ p.1.1 := by
          intro hh
          simp only at hxt
          rw [← hh, ho] at hxt
          exact ht hxt
        rw [getD_set hi, if_neg hpi] at h2
        exact List.mem_map.2 ⟨p, List.mem_filter.2 ⟨h1, h2⟩, rfl⟩
      · intro x hx hxt
        unfold pr up at hx ⊢
        obtain ⟨p, hp, rfl⟩ := List.mem_map.1 hx
        obtain ⟨h1, h2⟩ := List.mem_filter.1 hp
        refine List.mem_map.2 ⟨p, List.mem_filter.2 ⟨h1, ?_⟩, rfl⟩
        rw [getD_set hi]
        split
        · rfl
        · exact h2
      · intro x hx y hy h1 h2
        refine pr_dst_uniq hD.split hnd hP ?_ ?_ h1 h2
        · unfold pr up at *
          obtain ⟨p, hp, rfl⟩ := List.mem_map.1 hx
          exact List.mem_map.2 ⟨p, (List.mem_filter.1 hp).1, rfl⟩
        · unfold pr up at *
          obtain ⟨p, hp, rfl⟩ := List.mem_map.1 hy
          exact List.mem_map.2 ⟨p, (List.mem_filter.1 hp).1, rfl⟩
  · intro pre p v' suf h hl
    rw [getD_set hi] at hl
    split at hl
    · cases hl
    · exact hD.pend pre p v' suf h hl
/-- What an operand was when it was looked at. -/
theorem ov_same {listed : Array Bool} {d pre suf : List (Ent2 × TV)} {rest : List Ent2} {S : TS} {c : Cx} {w : World} {a : Act} {p : Ent2} {v : TV} {o : Oper} {y : Nat} (hD : Dr E N ops l T0 w0 listed d rest S c w a) (hnd : (l.map (·.1)).Nodup) (hL : chkL ops [] l = true) (hP : chkP ops (l.map (·.1)) = true)
    (hd : d = pre ++ (p, v) :: suf) (h1 : ops[p.1]? = some o) (g4 : o.dst ≠ some y) (g5 : ∀ e, e < ops.size → e = p.1 ∨ (ops[e]?).bind (·.dst) ≠ some y ∨ dep ops p.1 e = true) : ov ops T0 (pr pre) y = ov ops T0 (pr d) y := by
  have hpd : ∀ x ∈ pr pre, x ∈ pr d := by
    intro x hx; rw [hd]; unfold pr at *; rw [List.map_append]; exact List.mem_append_left _ hx
  have hsp : l = pre.map (·.1) ++ (p.1, p.2) :: (suf.map (·.1) ++ rest) := by rw [hD.split, hd]; simp
  obtain ⟨_, _, _, hsuf, _, _, _, _⟩ := chkL_at (pre.map (·.1)) [] (by rw [← hsp]; exact hL)
  refine ov_congr (fun x hx _ => hpd x hx) (fun x hx hxt => ?_) (fun x hx z hz e1 e2 => pr_dst_uniq hD.split hnd hP hx hz e1 e2)
  obtain ⟨ox, hox, hdx⟩ := Option.bind_eq_some_iff.1 hxt
  rw [hd] at hx
  unfold pr at hx ⊢
  obtain ⟨q, hq, rfl⟩ := List.mem_map.1 hx
  simp only at hox
  have hlt : q.1.1 < ops.size := (Array.getElem?_eq_some_iff.1 hox).1
  rcases List.mem_append.1 hq with hq | hq
  · exact List.mem_map.2 ⟨q, hq, rfl⟩
  · exfalso
    rcases g5 q.1.1 hlt with e | e | e
    · rw [e, h1] at hox
      injection hox with hox
      subst hox
      exact g4 hdx
    · exact e hxt
    · rcases List.mem_cons.1 hq with hq | hq
      · subst hq
        rw [h1] at hox
        injection hox with hox
        subst hox
        exact g4 hdx
      · have := hsuf q.1 (by simp only [List.mem_append, List.mem_map]; exact .inl ⟨q, hq, rfl⟩)
        rw [e] at this; cases this
/-- A load of a variable that stayed as it is. -/
theorem Pend.kept {listed : Array Bool} {d pre suf : List (Ent2 × TV)} {rest : List Ent2} {S S' : TS} {c : Cx} {w : World} {a : Act} {p : Ent2} {v : TV} (h : Pend E N ops p.1 (ov ops T0 (pr pre)) S v) (hD : Dr E N ops l T0 w0 listed d rest S c w a) (hnd : (l.map (·.1)).Nodup) (hL : chkL ops [] l = true) (hP : chkP ops (l.map (·.1)) = true)
    (hd : d = pre ++ (p, v) :: suf) (hl : loadAt ops p.1 = true) (hka : keepAt E ops p.1 (ov ops T0 (pr d)) S S') (hw : wfS S') : Pend E N ops p.1 (ov ops T0 (pr pre)) S' v := by
  obtain ⟨o, h1, h2⟩ := h
  obtain ⟨o', t, y, g1, g2, g3, g4, g5⟩ := loadAt_iff hl
  rw [h1] at g1; injection g1 with g1; subst g1
  refine ⟨o, h1, ?_⟩
  rw [g3] at h2 ⊢
  try simp only at h2
  try simp only
  unfold keepAt at hka
  rw [h1] at hka
  simp only [g2] at hka
  have hT := ov_same hD hnd hL hP hd h1 g4 g5
  split at hka
  · rename_i id off hx
    have hx' : evO E (ov ops T0 (pr pre)) (.tmp y) = .ptr id off := by
      simp only [evO] at hx ⊢
      rw [hT]; exact hx
    exact h2.kept hw g2 hx' hka
  · exact hka.elim
/-- A conversion of a number. -/
theorem Pend.conv {listed : Array Bool} {d pre suf : List (Ent2 × TV)} {rest : List Ent2} {S S' : TS} {c : Cx} {w : World} {a : Act} {p : Ent2} {v : TV} (h : Pend E N ops p.1 (ov ops T0 (pr pre)) S v) (hD : Dr E N ops l T0 w0 listed d rest S c w a) (hnd : (l.map (·.1)).Nodup) (hL : chkL ops [] l = true) (hP : chkP ops (l.map (·.1)) = true)
    (hd : d = pre ++ (p, v) :: suf) (hl : convAt ops p.1 = true) (hcv : convL E (ov ops T0 (pr d)) ops.toList) : Pend E N ops p.1 (ov ops T0 (pr pre)) S' v := by
  obtain ⟨o, h1, h2⟩ := h
  obtain ⟨o', s, e, y, g1, g2, g3, g4, g5⟩ := convAt_iff hl
  rw [h1] at g1; injection g1 with g1; subst g1
  refine ⟨o, h1, ?_⟩
  rw [g3] at h2 ⊢
  try simp only at h2
  try simp only
  have hT := ov_same hD hnd hL hP hd h1 g4 g5
  obtain ⟨k, n, hx⟩ := convL_at hcv (by rw [Array.mem_toList_iff]; exact Array.mem_of_getElem? h1) g2
  have hx' : evO E (ov ops T0 (pr pre)) (.tmp y) = .lit (.int k n) := by
    simp only [evO] at hx ⊢
    rw [hT]; exact hx
  exact h2.conv g2 hx'
/-- The next operation that is not quiet has come up. -/
theorem Dr.done {listed : Array Bool} {d : List (Ent2 × TV)} {rest : List Ent2} {S S' : TS} {c c' : Cx} {w w' : World} {a : Act} {i k : Nat} {v : TV} {u : Value} {o : Oper} (hD : Dr E N ops l T0 w0 listed d ((i, k) :: rest) S c w a) (hnd : (l.map (·.1)).Nodup) (hL : chkL ops [] l = true) (hP : chkP ops (l.map (·.1)) = true)
    (ho : ops[i]? = some o) (hup : Up o listed) (hok : Ok E w0 c' S' w') (m : Mono c w c' w') (hr : RdT c' w' v u) (hkeep : KpL S S' ∨ isDep k = true ∨ k = 4 ∨ (isKeep k = true ∧ keepAt E ops ((k - 10) / 4) (ov ops T0 (pr d)) S S' ∧ convL E (ov ops T0 (pr d)) ops.toList)) :
    Dr E N ops l T0 w0 (listed.setIfInBounds i true) (d ++ [((i, k), v)]) rest S' c' w' (a.put o.dst u) := by
  have hi : i < listed.size := by rw [hD.size]; exact (Array.getElem?_eq_some_iff.1 ho).1
  have hnd' := hnd
  rw [hD.split, List.map_append, List.map_map, List.map_cons] at hnd'
  have hdi : ∀ p ∈ d, p.1.1 ≠ i := fun p hp hh => (List.nodup_append.1 hnd').2.2 p.1.1 (List.mem_map.2 ⟨p, hp, rfl⟩) i (by simp) hh
  have hri : ∀ p ∈ rest, i ≠ p.1 := fun p hp hh => (List.nodup_cons.1 (List.nodup_append.1 hnd').2.1).1 (List.mem_map.2 ⟨p, hp, hh.symm⟩)
  have hup' : up (listed.setIfInBounds i true) (d ++ [((i, k), v)]) = up listed d ++ [((i, k), v)] := by
    have h1 := up_set hi hdi
    unfold up at *
    rw [List.filter_append, h1]
    congr 1
    rw [List.filter_cons, getD_set hi, if_pos rfl]
    rfl
  refine ⟨by rw [hD.split]; simp, by simp [hD.size], fun p hp => by rw [getD_set hi, if_neg (hri p hp)]; exact hD.rest p (List.mem_cons_of_mem _ hp), hD.dc.set hi ho hup, hok, ?_, by rw [put_size]; exact hD.asz, ?_⟩
  · rw [hup', pr_snoc]
    rw [ov_snoc ho (fun x hx => hD.fresh hnd hP ho x (by
      unfold pr up at *
      obtain ⟨p, hp, rfl⟩ := List.mem_map.1 hx
      exact List.mem_map.2 ⟨p, (List.mem_filter.1 hp).1, rfl⟩))]
    exact (hD.tm.step m).put hr
  · intro pre p v' suf h hl
    rcases List.eq_nil_or_concat suf with rfl | ⟨suf', x, rfl⟩
    · have := List.append_inj' h rfl
      obtain ⟨h1, h2⟩ := this
      simp only [List.cons.injEq, Prod.mk.injEq, and_true] at h2
      obtain ⟨rfl, rfl⟩ := h2
      rw [getD_set hi, if_pos rfl] at hl
      cases hl
    · have h' : d ++ [((i, k), v)] = (pre ++ (p, v') :: suf') ++ [x] := by rw [h]; simp
      have h1 := (List.append_inj' h' rfl).1
      have hpd : (p, v') ∈ d := by rw [h1]; simp
      rw [getD_set hi, if_neg (fun hh => hdi _ hpd hh.symm)] at hl
      obtain ⟨g1, g2⟩ := hD.pend pre p v' suf' h1 hl
      refine ⟨g1, ?_⟩
      rcases hkeep with hk | hk | hk | ⟨hk, hka, hcv⟩
      · exact g2.keep hD.ok.rel.wf hk
      · exfalso
        obtain ⟨o', ho', _, _, _, h2, _, _⟩ := chkL_at (ops := ops) (d.map (·.1)) [] (i := i) (k := k) (suf := rest) (by rw [← hD.split]; exact hL)
        have := before_forced ops listed hD.dc i p.1 o ho hup (h2 hk p (List.mem_map.2 ⟨_, hpd, rfl⟩))
        rw [hl] at this; cases this
      · obtain ⟨o', ho', _, _, _, _, h2, _⟩ := chkL_at (ops := ops) (d.map (·.1)) [] (i := i) (k := k) (suf := rest) (by rw [← hD.split]; exact hL)
        rcases h2 hk p (List.mem_map.2 ⟨_, hpd, rfl⟩) with h3 | h3
        · have := before_forced ops listed hD.dc i p.1 o ho hup h3
          rw [hl] at this; cases this
        · exact g2.any h3
      · obtain ⟨o', ho', _, _, _, _, _, h2⟩ := chkL_at (ops := ops) (d.map (·.1)) [] (i := i) (k := k) (suf := rest) (by rw [← hD.split]; exact hL)
        rcases h2 hk p (List.mem_map.2 ⟨_, hpd, rfl⟩) with h3 | h3 | ⟨h3, h4⟩ | h4
        · have := before_forced ops listed hD.dc i p.1 o ho hup h3
          rw [hl] at this; cases this
        · exact g2.any h3
        · rw [← h3] at hka
          exact g2.kept hD hnd hL hP h1 h4 hka hok.rel.wf
        · exact g2.conv hD hnd hL hP h1 h4 hcv
set_option maxHeartbeats 1000000 in
theorem evD_main {K : (Nat → TV) → TS → Prop} (hnd : (l.map (·.1)).Nodup) (hL : chkL ops [] l = true) (hP : chkP ops (l.map (·.1)) = true) (hcov : ∀ i, i < ops.size → i ∈ l.map (·.1)) (hinb : ∀ o ∈ ops.toList, opInb N o = true) :
    ∀ (fuel : Nat) (listed : Array Bool) (d : List (Ent2 × TV)) (rest : List Ent2) (S : TS) (c : Cx) (w : World) (a : Act), Dr E N ops l T0 w0 listed d rest S c w a → (rest = [] ∨ ∃ i k r, rest = (i, k) :: r ∧ isQ k = false) → (∀ p ∈ rest, okK p.2 = true) → evD E N ops rest K (ov ops T0 (pr d)) S →
      ((l.map (·.1)).filter fun j => !listed.getD j false).length = fuel → ∀ Q' : Exit → Act → World → Prop,
      (∀ T S' c' w' a', Ok E w0 c' S' w' → Mono c w c' w' → Tmps c' w' T a' → a'.tmps.size = N → a'.defers = a.defers → K T S' → Q' .normal a' w') → wpAny E.P .any ops Q' fuel listed a w := by
  intro fuel
  induction fuel with
  | zero =>
    intro listed d rest S c w a hD hnorm h5 hev hcnt Q' hQ
    have hall : ∀ i, i ∈ l.map (·.1) → listed.getD i false = true := by
      intro i hi
      cases h : listed.getD i false with
      | true => rfl
      | false =>
        have : i ∈ (l.map (·.1)).filter fun j => !listed.getD j false := List.mem_filter.2 ⟨hi, by rw [h]; rfl⟩
        rw [List.eq_nil_of_length_eq_zero hcnt] at this; cases this
    have hrest : rest = [] := by
      cases rest with
      | nil => rfl
      | cons p r =>
        have h1 := hD.rest p (by simp)
        have h2 := hall p.1 (by rw [hD.split]; simp)
        rw [h1] at h2; cases h2
    subst hrest
    refine ⟨?_, ?_⟩
    · apply List.eq_nil_iff_forall_not_mem.2
      intro i hi
      obtain ⟨h1, o, ho, _⟩ := (ready_iff hD.size).1 hi
      have := hall i (hcov i (Array.getElem?_eq_some_iff.1 ho).1)
      rw [h1] at this; cases this
    · have hup : up listed d = d := by
        unfold up
        apply List.filter_eq_self.2
        intro p hp
        exact hall p.1.1 (by rw [hD.split, List.map_append, List.map_map]; exact List.mem_append_left _ (List.mem_map.2 ⟨p, hp, rfl⟩))
      have ht := hD.tm
      rw [hup] at ht
      exact hQ _ S c w a hD.ok (Mono.refl c w) ht hD.asz rfl hev
  | succ fuel ih =>
    intro listed d rest S c w a hD hnorm h5 hev hcnt Q' hQ
    refine ⟨?_, ?_⟩
    · intro hnil
      exfalso
      have hex : ∃ p ∈ l, listed.getD p.1 false = false := by
        have hne : (l.map (·.1)).filter (fun j => !listed.getD j false) ≠ [] := by intro hh; rw [hh] at hcnt; simp at hcnt
        obtain ⟨j, hj⟩ := List.exists_mem_of_ne_nil _ hne
        obtain ⟨h1, h2⟩ := List.mem_filter.1 hj
        obtain ⟨p, hp, rfl⟩ := List.mem_map.1 h1
        exact ⟨p, hp, by simpa using h2⟩
      obtain ⟨pre, ⟨i, k⟩, suf, g1, g2, g3⟩ := exists_first l hex
      obtain ⟨o, ho, hd, _⟩ := chkL_at pre [] (by rw [← g1]; exact hL)
      have : i ∈ Region.ready .any ops listed := (ready_iff hD.size).2 ⟨g2, o, ho, fun e he hb => by
        rcases hd e he hb with h | h
        · cases h
        · obtain ⟨q, hq, hqe⟩ := List.mem_map.1 h
          rw [← hqe]; exact g3 q hq⟩
      rw [hnil] at this; cases this
    · intro i hi
      obtain ⟨hul, o, ho, hup⟩ := (ready_iff hD.size).1 hi
      have hin := hcov i (Array.getElem?_eq_some_iff.1 ho).1
      have hoi : opInb N o = true := hinb o (by rw [Array.mem_toList_iff]; exact Array.mem_of_getElem? ho)
      have hilt : i < listed.size := by rw [hD.size]; exact (Array.getElem?_eq_some_iff.1 ho).1
      have hcnt' : ((l.map (·.1)).filter fun j => !(listed.setIfInBounds i true).getD j false).length = fuel := by
        have := count_set hilt hul (l.map (·.1)) hnd hin
        omega
      rw [hD.split, List.map_append, List.mem_append, List.map_map] at hin
      unfold wpOp
      rw [ho]
      rcases hin with hin | hin
      · -- it has been taken in its turn
        obtain ⟨⟨⟨i', k⟩, v⟩, hm, hii⟩ := List.mem_map.1 hin
        simp only [Function.comp] at hii
        subst hii
        obtain ⟨pre, suf, hsp⟩ := List.append_of_mem hm
        obtain ⟨hk0, o', ho', hpend⟩ := hD.pend pre (i', k) v suf hsp hul
        simp only at hk0 ho'
        rw [ho] at ho'; injection ho' with ho'; subst ho'
        have hag := fun t ht => agree hD hnd hL hP hsp hul ho hup (t := t) ht
        have hopn : Opn E c w (ov ops T0 (pr pre)) a o.op := opn_look hD.ok hD.tm hD.asz hoi hag
        have fin : ∀ u c1 w1, Ok E w0 c1 S w1 → Mono c w c1 w1 → RdT c1 w1 v u → wpAny E.P .any ops Q' fuel (listed.setIfInBounds i' true) (a.put o.dst u) w1 := fun u c1 w1 hk1 m1 hr =>
          ih _ d rest S c1 w1 _ ((hD.stepW hk1 m1).took hnd hP hm ho hup hr) hnorm h5 hev hcnt' Q' (fun T S' c' w' a' h1 h2 h3 h4 h5 h6 => hQ T S' c' w' a' h1 (m1.trans h2) h3 h4 (by rw [h5, put_defers']) h6)
        have quietRun : SStab E o (ov ops T0 (pr pre)) S v → o.wp E.P a w (wpAny E.P .any ops Q' fuel (listed.setIfInBounds i' true)) Q' := by
          intro hq
          refine hq.1 S hD.ok.rel.wf (KpL.refl S) w0 c w a hD.ok hopn _ _ ?_
          rintro u w1 ⟨t, c1, S1, h1, h2, h3, rfl, rfl⟩
          exact fin u c1 w1 h1 h2 h3
        split at hpend
        · rename_i hg
          simp only
          rw [if_pos (by simp [Region.wanted, hg])]
          exact .inl (quietRun hpend)
        · rename_i j want hg
          obtain ⟨dd, b, g1, g2, g3, g4, g5⟩ := hpend
          have hX : ov ops T0 (pr (up listed d)) dd = .lit b := by rw [hag dd (looks_guard hg g1)]; exact g3
          have hw := wanted_of hD.tm hD.asz hg g1 g2 hX
          simp only [hw]
          by_cases hbw : bOf b = some want
          · rw [if_pos (by simp [hbw])]
            exact .inl (quietRun (g4 hbw))
          · rw [if_neg (by simp [hbw])]
            exact fin undef c w hD.ok (Mono.refl c w) (by rw [g5 hbw]; exact .lit _)
      · -- it is one of those to come: the next that is not quiet
        rcases hnorm with hnorm | ⟨i0, k0, r, hr0, hk0⟩
        · subst hnorm; cases hin
        · subst hr0
          have hi0 : i = i0 := by
            rcases List.mem_cons.1 hin with h | h
            · exact h
            · exfalso
              obtain ⟨o', ho', _, _, h2, _, _, _⟩ := chkL_at (ops := ops) (d.map (·.1)) [] (i := i0) (k := k0) (suf := r) (by rw [← hD.split]; exact hL)
              obtain ⟨q, hq, rfl⟩ := List.mem_map.1 h
              obtain ⟨oq, hoq, he⟩ := (h2 hk0 q hq).resolve_left (fun hh => okK_no (h5 (i0, k0) (by simp)) hh.1 hh.2.1)
              rw [ho] at hoq; injection hoq with hoq; subst hoq
              unfold edgeIn at he
              rw [← Array.any_toList, List.any_eq_true] at he
              obtain ⟨e, hem, heb⟩ := he
              rw [Array.mem_toList_iff] at hem
              simp only [Bool.and_eq_true] at heb
              have hel := hup e hem heb.1
              have hmem : e.on ∈ i0 :: r.map (·.1) := by simpa using heb.2
              have : listed.getD e.on false = false := by
                rcases List.mem_cons.1 hmem with h | h
                · rw [h]; exact hD.rest (i0, k0) (by simp)
                · obtain ⟨q', hq', hh⟩ := List.mem_map.1 h
                  rw [← hh]; exact hD.rest q' (List.mem_cons_of_mem _ hq')
              rw [this] at hel; cases hel
          subst hi0
          have hag := fun t ht => agreeE hD hnd hL hP ho hup (t := t) ht
          have hopn : Opn E c w (ov ops T0 (pr d)) a o.op := opn_look hD.ok hD.tm hD.asz hoi hag
          have hfr := hD.fresh hnd hP ho
          have step : ∀ (t : TV) (u : Value) (c' : Cx) (S' : TS) (w' : World), Ok E w0 c' S' w' → Mono c w c' w' → RdT c' w' t u → (KpL S S' ∨ isDep k0 = true ∨ k0 = 4 ∨ (isKeep k0 = true ∧ keepAt E ops ((k0 - 10) / 4) (ov ops T0 (pr d)) S S' ∧ convL E (ov ops T0 (pr d)) ops.toList)) → evD E N ops r K (putT (ov ops T0 (pr d)) o.dst t) S' →
              wpAny E.P .any ops Q' fuel (listed.setIfInBounds i true) (a.put o.dst u) w' := by
            intro t u c' S' w' h1 h2 h3 h4 h5'
            have hD' := hD.done hnd hL hP ho hup h1 h2 h3 h4
            rw [← ov_snoc ho hfr, ← pr_snoc d (i, k0) t] at h5'
            obtain ⟨d2, r2, hs2, hD2, hev2, hn2⟩ := Dr.normal (K := K) hnd hP r _ hD' h5'
            exact ih _ d2 r2 S' c' w' _ hD2 hn2 (fun p hp => h5 p (List.mem_cons_of_mem _ (hs2 p hp))) hev2 hcnt' Q' (fun T S'' c'' w'' a' g1 g2 g3 g4 g5 g6 => hQ T S'' c'' w'' a' g1 (h2.trans g2) g3 g4 (by rw [g5, put_defers']) g6)
          have hk12 : k0 = 1 ∨ isDep k0 = true ∨ k0 = 4 ∨ (k0 = k0 ∧ isKeep k0 = true) := by
            have := h5 (i, k0) (by simp)
            simp only at this
            simp only [isQ, Bool.or_eq_false_iff, beq_eq_false_iff_ne] at hk0
            simp only [okK, Bool.or_eq_true, decide_eq_true_eq] at this
            rcases this with h | h
            · simp only [isDep, Bool.or_eq_true, beq_iff_eq]
              omega
            · exact .inr (.inr (.inr ⟨rfl, h⟩))
          have run : (opT E o (ov ops T0 (pr d)) S fun t S' => sideD E ops k0 (ov ops T0 (pr d)) S S' ∧ evD E N ops r K (putT (ov ops T0 (pr d)) o.dst t) S') → o.wp E.P a w (wpAny E.P .any ops Q' fuel (listed.setIfInBounds i true)) Q' := by
            intro h
            refine opT_ok h w0 c w a hD.ok hopn _ _ ?_
            rintro u w' ⟨t, c', S', h1, h2, h3, h4, h5⟩
            refine step t u c' S' w' h1 h2 h3 ?_ h5
            rcases hk12 with hk | hk | hk | ⟨_, hk⟩
            · exact .inl (sideD_kp h4 hk)
            · exact .inr (.inl hk)
            · exact .inr (.inr (.inl hk))
            · exact .inr (.inr (.inr ⟨hk, sideD_ka h4 hk⟩))
          unfold evD at hev
          rw [ho] at hev
          simp only at hev
          split at hev
          · rename_i hg
            rw [if_neg (by rw [hk0]; simp)] at hev
            simp only
            rw [if_pos (by simp [Region.wanted, hg])]
            exact .inl (run hev)
          · rename_i j want hg
            split at hev
            · rename_i dd hdd
              split at hev
              · rename_i b hb
                obtain ⟨hN, h1, h2⟩ := hev
                have hX : ov ops T0 (pr (up listed d)) dd = .lit b := by rw [hag dd (looks_guard hg hdd)]; exact hb
                have hw := wanted_of hD.tm hD.asz hg hdd hN hX
                simp only [hw]
                by_cases hbw : bOf b = some want
                · rw [if_pos (by simp [hbw])]
                  have := h1 hbw
                  rw [if_neg (by rw [hk0]; simp)] at this
                  exact .inl (run this)
                · rw [if_neg (by simp [hbw])]
                  exact step (.lit undef) undef c S w hD.ok (Mono.refl c w) (.lit _) (.inl (KpL.refl S)) (h2 hbw)
              · exact hev.elim
            · exact hev.elim
theorem Dr.run {K : (Nat → TV) → TS → Prop} (hnd : (l.map (·.1)).Nodup) (hL : chkL ops [] l = true) (hP : chkP ops (l.map (·.1)) = true) {listed : Array Bool} {d : List (Ent2 × TV)} {rest' r : List Ent2} {S : TS} {c : Cx} {w : World} {a : Act} {i k0 kev fuel : Nat} {o : Oper} {Q' : Exit → Act → World → Prop}
    (hD : Dr E N ops l T0 w0 listed d ((i, k0) :: rest') S c w a) (ho : ops[i]? = some o) (hup : Up o listed) (hoi : opInb N o = true) (hkq : isQ kev = false) (hk12 : kev = 1 ∨ isDep k0 = true ∨ k0 = 4 ∨ (kev = k0 ∧ isKeep k0 = true)) (hev : evD E N ops ((i, kev) :: r) K (ov ops T0 (pr d)) S)
    (cont : ∀ (t : TV) (u : Value) (c' : Cx) (S' : TS) (w' : World), Mono c w c' w' → Dr E N ops l T0 w0 (listed.setIfInBounds i true) (d ++ [((i, k0), t)]) rest' S' c' w' (a.put o.dst u) → evD E N ops r K (ov ops T0 (pr (d ++ [((i, k0), t)]))) S' → wpAny E.P .any ops Q' fuel (listed.setIfInBounds i true) (a.put o.dst u) w') :
    wpOp E.P ops Q' i (wpAny E.P .any ops Q' fuel (listed.setIfInBounds i true)) a w := by
  unfold wpOp
  rw [ho]
  have hag := fun t ht => agreeE hD hnd hL hP ho hup (t := t) ht
  have hopn : Opn E c w (ov ops T0 (pr d)) a o.op := opn_look hD.ok hD.tm hD.asz hoi hag
  have hfr := hD.fresh hnd hP ho
  have step : ∀ (t : TV) (u : Value) (c' : Cx) (S' : TS) (w' : World), Ok E w0 c' S' w' → Mono c w c' w' → RdT c' w' t u → (KpL S S' ∨ isDep k0 = true ∨ k0 = 4 ∨ (isKeep k0 = true ∧ keepAt E ops ((k0 - 10) / 4) (ov ops T0 (pr d)) S S' ∧ convL E (ov ops T0 (pr d)) ops.toList)) → evD E N ops r K (putT (ov ops T0 (pr d)) o.dst t) S' →
      wpAny E.P .any ops Q' fuel (listed.setIfInBounds i true) (a.put o.dst u) w' := by
    intro t u c' S' w' h1 h2 h3 h4 h5'
    have hD' := hD.done hnd hL hP ho hup h1 h2 h3 h4
    rw [← ov_snoc ho hfr, ← pr_snoc d (i, k0) t] at h5'
    exact cont t u c' S' w' h2 hD' h5'
  have run : (opT E o (ov ops T0 (pr d)) S fun t S' => sideD E ops kev (ov ops T0 (pr d)) S S' ∧ evD E N ops r K (putT (ov ops T0 (pr d)) o.dst t) S') → o.wp E.P a w (wpAny E.P .any ops Q' fuel (listed.setIfInBounds i true)) Q' := by
    intro h
    refine opT_ok h w0 c w a hD.ok hopn _ _ ?_
    rintro u w' ⟨t, c', S', h1, h2, h3, h4, h5⟩
    refine step t u c' S' w' h1 h2 h3 ?_ h5
    rcases hk12 with hk | hk | hk | ⟨he, hk⟩
    · exact .inl (sideD_kp h4 hk)
    · exact .inr (.inl hk)
    · exact .inr (.inr (.inl hk))
    · subst he; exact .inr (.inr (.inr ⟨hk, sideD_ka h4 hk⟩))
  unfold evD at hev
  rw [ho] at hev
  simp only at hev
  split at hev
  · rename_i hg
    rw [if_neg (by rw [hkq]; simp)] at hev
    simp only
    rw [if_pos (by simp [Region.wanted, hg])]
    exact .inl (run hev)
  · rename_i j want hg
    split at hev
    · rename_i dd hdd
      split at hev
      · rename_i b hb
        obtain ⟨hN, h1, h2⟩ := hev
        have hX : ov ops T0 (pr (up listed d)) dd = .lit b := by rw [hag dd (looks_guard hg hdd)]; exact hb
        have hw := wanted_of hD.tm hD.asz hg hdd hN hX
        simp only [hw]
        by_cases hbw : bOf b = some want
        · rw [if_pos (by simp [hbw])]
          have := h1 hbw
          rw [if_neg (by rw [hkq]; simp)] at this
          exact .inl (run this)
        · rw [if_neg (by simp [hbw])]
          exact step (.lit undef) undef c S w hD.ok (Mono.refl c w) (.lit _) (.inl (KpL.refl S)) (h2 hbw)
      · exact hev.elim
    · exact hev.elim
/-- What has an edge to what is still to come is not ready. -/
theorem not_up {listed : Array Bool} {d : List (Ent2 × TV)} {rest : List Ent2} {S : TS} {c : Cx} {w : World} {a : Act} (hD : Dr E N ops l T0 w0 listed d rest S c w a) {o : Oper} (hup : Up o listed) (he : edgeIn o (rest.map (·.1)) = true) : False := by
  unfold edgeIn at he
  rw [← Array.any_toList, List.any_eq_true] at he
  obtain ⟨e, hem, heb⟩ := he
  rw [Array.mem_toList_iff] at hem
  simp only [Bool.and_eq_true] at heb
  have hel := hup e hem heb.1
  have hmem : e.on ∈ rest.map (·.1) := by simpa using heb.2
  obtain ⟨q', hq', hh⟩ := List.mem_map.1 hmem
  have := hD.rest q' hq'
  rw [hh, hel] at this; cases this
theorem q1 (a : Nat) : isQ (1 + a) = (a == 2) := by
  unfold isQ
  rw [Bool.eq_iff_iff]
  simp only [Bool.or_eq_true, beq_iff_eq]
  omega
theorem q2 (a j : Nat) (h : a ≤ 1) : 1 + a = 1 ∨ isDep (10 + 4 * j + a) = true ∨ 10 + 4 * j + a = 4 ∨ (1 + a = 10 + 4 * j + a ∧ isKeep (10 + 4 * j + a) = true) := by
  simp only [isDep, Bool.or_eq_true, Bool.and_eq_true, beq_iff_eq, decide_eq_true_eq]
  omega
set_option maxHeartbeats 1000000 in
theorem evB_main {K : (Nat → TV) → TS → Prop} {l2 pre0 t1 t2 : List Ent2} {i1 j1 ka kb : Nat} (hka : ka ≤ 1) (hkb : kb ≤ 1) (hl1 : l = pre0 ++ (i1, 10 + 4 * j1 + ka) :: t1) (hl2 : l2 = pre0 ++ (j1, 10 + 4 * i1 + kb) :: t2)
    (hnd : (l.map (·.1)).Nodup) (hL : chkL ops [] l = true) (hP : chkP ops (l.map (·.1)) = true) (hcov : ∀ i, i < ops.size → i ∈ l.map (·.1))
    (hnd2 : (l2.map (·.1)).Nodup) (hL2 : chkL ops [] l2 = true) (hP2 : chkP ops (l2.map (·.1)) = true) (hcov2 : ∀ i, i < ops.size → i ∈ l2.map (·.1))
    (ht1 : ∀ p ∈ t1, okK p.2 = true) (ht2 : ∀ p ∈ t2, okK p.2 = true) (hperm : (l2.map (·.1)).Perm (l.map (·.1))) (hinb : ∀ o ∈ ops.toList, opInb N o = true) :
    ∀ (fuel : Nat) (listed : Array Bool) (d : List (Ent2 × TV)) (rest : List Ent2) (S : TS) (c : Cx) (w : World) (a : Act), Dr E N ops l T0 w0 listed d (rest ++ (i1, 10 + 4 * j1 + ka) :: t1) S c w a → (rest = [] ∨ ∃ i k r, rest = (i, k) :: r ∧ isQ k = false) → (∀ p ∈ rest, okK p.2 = true) →
      evD E N ops rest (fun T S => evD E N ops ((i1, 1 + ka) :: t1) K T S ∧ evD E N ops ((j1, 1 + kb) :: t2) K T S) (ov ops T0 (pr d)) S →
      ((l.map (·.1)).filter fun j => !listed.getD j false).length = fuel → ∀ Q' : Exit → Act → World → Prop,
      (∀ T S' c' w' a', Ok E w0 c' S' w' → Mono c w c' w' → Tmps c' w' T a' → a'.tmps.size = N → a'.defers = a.defers → K T S' → Q' .normal a' w') → wpAny E.P .any ops Q' fuel listed a w := by
  intro fuel
  induction fuel with
  | zero =>
    intro listed d rest S c w a hD hnorm h5 hev hcnt Q' hQ
    exfalso
    have h1 := hD.rest (i1, 10 + 4 * j1 + ka) (by simp)
    have : i1 ∈ (l.map (·.1)).filter fun j => !listed.getD j false := List.mem_filter.2 ⟨by rw [hl1]; simp, by simp only at h1; rw [h1]; rfl⟩
    rw [List.eq_nil_of_length_eq_zero hcnt] at this; cases this
  | succ fuel ih =>
    intro listed d rest S c w a hD hnorm h5 hev hcnt Q' hQ
    refine ⟨?_, ?_⟩
    · intro hnil
      exfalso
      have hex : ∃ p ∈ l, listed.getD p.1 false = false := ⟨(i1, 10 + 4 * j1 + ka), by rw [hl1]; simp, hD.rest (i1, 10 + 4 * j1 + ka) (by simp)⟩
      obtain ⟨pre, ⟨i, k⟩, suf, g1, g2, g3⟩ := exists_first l hex
      obtain ⟨o, ho, hd, _⟩ := chkL_at pre [] (by rw [← g1]; exact hL)
      have : i ∈ Region.ready .any ops listed := (ready_iff hD.size).2 ⟨g2, o, ho, fun e he hb => by
        rcases hd e he hb with h | h
        · cases h
        · obtain ⟨q, hq, hqe⟩ := List.mem_map.1 h
          rw [← hqe]; exact g3 q hq⟩
      rw [hnil] at this; cases this
    · intro i hi
      obtain ⟨hul, o, ho, hup⟩ := (ready_iff hD.size).1 hi
      have hin := hcov i (Array.getElem?_eq_some_iff.1 ho).1
      have hoi : opInb N o = true := hinb o (by rw [Array.mem_toList_iff]; exact Array.mem_of_getElem? ho)
      have hilt : i < listed.size := by rw [hD.size]; exact (Array.getElem?_eq_some_iff.1 ho).1
      have hcnt' : ((l.map (·.1)).filter fun j => !(listed.setIfInBounds i true).getD j false).length = fuel := by
        have := count_set hilt hul (l.map (·.1)) hnd hin
        omega
      have hcnt2 : ((l2.map (·.1)).filter fun j => !(listed.setIfInBounds i true).getD j false).length = fuel := by
        rw [(hperm.filter _).length_eq]; exact hcnt'
      rw [hD.split, List.map_append, List.mem_append, List.map_map] at hin
      rcases hin with hin | hin
      · -- it has been taken in its turn
        unfold wpOp
        rw [ho]
        obtain ⟨⟨⟨i', k⟩, v⟩, hm, hii⟩ := List.mem_map.1 hin
        simp only [Function.comp] at hii
        subst hii
        obtain ⟨pre, suf, hsp⟩ := List.append_of_mem hm
        obtain ⟨hk0, o', ho', hpend⟩ := hD.pend pre (i', k) v suf hsp hul
        simp only at hk0 ho'
        rw [ho] at ho'; injection ho' with ho'; subst ho'
        have hag := fun t ht => agree hD hnd hL hP hsp hul ho hup (t := t) ht
        have hopn : Opn E c w (ov ops T0 (pr pre)) a o.op := opn_look hD.ok hD.tm hD.asz hoi hag
        have fin : ∀ u c1 w1, Ok E w0 c1 S w1 → Mono c w c1 w1 → RdT c1 w1 v u → wpAny E.P .any ops Q' fuel (listed.setIfInBounds i' true) (a.put o.dst u) w1 := fun u c1 w1 hk1 m1 hr =>
          ih _ d rest S c1 w1 _ ((hD.stepW hk1 m1).took hnd hP hm ho hup hr) hnorm h5 hev hcnt' Q' (fun T S' c' w' a' h1 h2 h3 h4 h5 h6 => hQ T S' c' w' a' h1 (m1.trans h2) h3 h4 (by rw [h5, put_defers']) h6)
        have quietRun : SStab E o (ov ops T0 (pr pre)) S v → o.wp E.P a w (wpAny E.P .any ops Q' fuel (listed.setIfInBounds i' true)) Q' := by
          intro hq
          refine hq.1 S hD.ok.rel.wf (KpL.refl S) w0 c w a hD.ok hopn _ _ ?_
          rintro u w1 ⟨t, c1, S1, h1, h2, h3, rfl, rfl⟩
          exact fin u c1 w1 h1 h2 h3
        split at hpend
        · rename_i hg
          simp only
          rw [if_pos (by simp [Region.wanted, hg])]
          exact .inl (quietRun hpend)
        · rename_i j want hg
          obtain ⟨dd, b, g1, g2, g3, g4, g5⟩ := hpend
          have hX : ov ops T0 (pr (up listed d)) dd = .lit b := by rw [hag dd (looks_guard hg g1)]; exact g3
          have hw := wanted_of hD.tm hD.asz hg g1 g2 hX
          simp only [hw]
          by_cases hbw : bOf b = some want
          · rw [if_pos (by simp [hbw])]
            exact .inl (quietRun (g4 hbw))
          · rw [if_neg (by simp [hbw])]
            exact fin undef c w hD.ok (Mono.refl c w) (by rw [g5 hbw]; exact .lit _)
      · rcases hnorm with hnorm | ⟨i0, k0, r, hr0, hk0⟩
        · -- one of the two
          subst hnorm
          rw [List.nil_append] at hD hin
          obtain ⟨hevA, hevB⟩ := hev
          have hij : i = i1 ∨ i = j1 := by
            rcases List.mem_cons.1 hin with h | h
            · exact .inl h
            obtain ⟨o', ho', _, _, h2, _, _, _⟩ := chkL_at (ops := ops) (d.map (·.1)) [] (i := i1) (k := 10 + 4 * j1 + ka) (suf := t1) (by rw [← hD.split]; exact hL)
            obtain ⟨q, hq, rfl⟩ := List.mem_map.1 h
            rcases h2 (by unfold isQ; rw [Bool.or_eq_false_iff]; exact ⟨by rw [beq_eq_false_iff_ne]; omega, by rw [beq_eq_false_iff_ne]; omega⟩) q hq with ⟨_, _, h3⟩ | ⟨oq, hoq, he⟩
            · exact .inr (by omega)
            · exfalso
              rw [ho] at hoq; injection hoq with hoq; subst hoq
              exact not_up hD hup he
          rcases hij with rfl | rfl
          · refine hD.run hnd hL hP ho hup hoi (kev := 1 + ka) (by rw [q1, beq_eq_false_iff_ne]; omega) (q2 ka _ hka) hevA fun t u c' S' w' hm hD' hev' => ?_
            obtain ⟨d2, r2, hs2, hD2, hev2, hn2⟩ := Dr.normal (K := K) hnd hP _ _ hD' hev'
            exact evD_main hnd hL hP hcov hinb fuel _ d2 r2 S' c' w' _ hD2 hn2 (fun p hp => ht1 p (hs2 p hp)) hev2 hcnt' Q' (fun T S'' c'' w'' a' g1 g2 g3 g4 g5 g6 => hQ T S'' c'' w'' a' g1 (hm.trans g2) g3 g4 (by rw [g5, put_defers']) g6)
          · have hpd : pre0 = d.map (·.1) := by
              have := hD.split
              rw [hl1] at this
              exact List.append_cancel_right this
            have hpt : ((i, 10 + 4 * i1 + kb) :: t2).map (·.1) |>.Perm (((i1, 10 + 4 * i + ka) :: t1).map (·.1)) := by
              have := hperm
              rw [hl1, hl2, List.map_append, List.map_append] at this
              exact (List.perm_append_left_iff _).1 this
            have hD0 : Dr E N ops l2 T0 w0 listed d ((i, 10 + 4 * i1 + kb) :: t2) S c w a :=
              ⟨by rw [hl2, hpd], hD.size, fun p hp => by
                have := hpt.subset (List.mem_map.2 ⟨p, hp, rfl⟩)
                obtain ⟨q, hq, he⟩ := List.mem_map.1 this
                rw [← he]; exact hD.rest q hq, hD.dc, hD.ok, hD.tm, hD.asz, hD.pend⟩
            refine hD0.run hnd2 hL2 hP2 ho hup hoi (kev := 1 + kb) (by rw [q1, beq_eq_false_iff_ne]; omega) (q2 kb _ hkb) hevB fun t u c' S' w' hm hD' hev' => ?_
            obtain ⟨d2, r2, hs2, hD2, hev2, hn2⟩ := Dr.normal (K := K) hnd2 hP2 _ _ hD' hev'
            exact evD_main hnd2 hL2 hP2 hcov2 hinb fuel _ d2 r2 S' c' w' _ hD2 hn2 (fun p hp => ht2 p (hs2 p hp)) hev2 hcnt2 Q' (fun T S'' c'' w'' a' g1 g2 g3 g4 g5 g6 => hQ T S'' c'' w'' a' g1 (hm.trans g2) g3 g4 (by rw [g5, put_defers']) g6)
        · subst hr0
          rw [List.cons_append] at hD hin
          have hi0 : i = i0 := by
            rcases List.mem_cons.1 hin with h | h
            · exact h
            · exfalso
              obtain ⟨o', ho', _, _, h2, _, _, _⟩ := chkL_at (ops := ops) (d.map (·.1)) [] (i := i0) (k := k0) (suf := r ++ (i1, 10 + 4 * j1 + ka) :: t1) (by rw [← hD.split]; exact hL)
              obtain ⟨q, hq, rfl⟩ := List.mem_map.1 h
              obtain ⟨oq, hoq, he⟩ := (h2 hk0 q hq).resolve_left (fun hh => okK_no (h5 (i0, k0) (by simp)) hh.1 hh.2.1)
              rw [ho] at hoq; injection hoq with hoq; subst hoq
              exact not_up hD hup he
          subst hi0
          have hk12 : k0 = 1 ∨ isDep k0 = true ∨ k0 = 4 ∨ (k0 = k0 ∧ isKeep k0 = true) := by
            have := h5 (i, k0) (by simp)
            simp only at this
            simp only [isQ, Bool.or_eq_false_iff, beq_eq_false_iff_ne] at hk0
            simp only [okK, Bool.or_eq_true, decide_eq_true_eq] at this
            rcases this with h | h
            · simp only [isDep, Bool.or_eq_true, beq_iff_eq]
              omega
            · exact .inr (.inr (.inr ⟨rfl, h⟩))
          refine hD.run hnd hL hP ho hup hoi (kev := k0) hk0 hk12 hev fun t u c' S' w' hm hD' hev' => ?_
          obtain ⟨d2, r2, hs2, hD2, hev2, hn2⟩ := Dr.normalT hnd hP r _ hD' hev'
          exact ih _ d2 r2 S' c' w' _ hD2 hn2 (fun p hp => h5 p (List.mem_cons_of_mem _ (hs2 p hp))) hev2 hcnt' Q' (fun T S'' c'' w'' a' g1 g2 g3 g4 g5 g6 => hQ T S'' c'' w'' a' g1 (hm.trans g2) g3 g4 (by rw [g5, put_defers']) g6)
theorem TWp.draw {id : Nat} {Q : Exit → (Nat → TV) → TS → Prop} {T : Nat → TV} {S : TS} (hm : E.P.follows .mixedOrders = true) (l : List Ent2) (hc : chkD ops l = true) (h : evD E N ops l (fun T S => Q .normal T S) T S) : TWp E N (.region id ops true) Q T S := by
  intro hi w0 c w a hk ht hs
  unfold chkD at hc
  simp only [Bool.and_eq_true] at hc
  obtain ⟨⟨⟨⟨h1, h2⟩, h3⟩, h4⟩, h5⟩ := hc
  have hnd := noDup_iff h3
  have hlt : ∀ p ∈ l, p.1 < ops.size ∧ okK p.2 = true := fun p hp => by
    have := List.all_eq_true.1 h5 p hp
    simpa using this
  have hcov : ∀ i, i < ops.size → i ∈ l.map (·.1) := fun i hi => by
    have := List.all_eq_true.1 h4 i (List.mem_range.2 hi)
    simpa using this
  have hinb : ∀ o ∈ ops.toList, opInb N o = true := fun o ho => List.all_eq_true.1 hi o ho
  have hfalse : ∀ j, (Array.replicate ops.size false).getD j false = false := by
    intro j
    rw [Array.getD_eq_getD_getElem?, Array.getElem?_replicate]
    split <;> rfl
  refine wp_region_any hm ?_
  have hdr := hk.rel.drew
  have hD : Dr E N ops l T w0 (Array.replicate ops.size false) [] l S c w.drew a :=
    ⟨rfl, by simp, fun p _ => hfalse _, fun i o _ h => (by rw [hfalse] at h; cases h), hk.step hdr.1 hdr.2, by simpa [up, pr, ov_nil] using ht.step hdr.2, hs, fun pre p v suf h _ => by simp at h⟩
  obtain ⟨d2, r2, hs2, hD2, hev2, hn2⟩ := Dr.normal (K := fun T S => Q .normal T S) hnd h2 l [] hD h
  have hcnt : ((l.map (·.1)).filter fun j => !(Array.replicate ops.size false).getD j false).length = ops.size := by
    have : (l.map (·.1)).filter (fun j => !(Array.replicate ops.size false).getD j false) = l.map (·.1) := by
      apply List.filter_eq_self.2
      intro j _
      rw [hfalse]; rfl
    rw [this]
    have hp : (l.map (·.1)).Perm (List.range ops.size) := by
      refine (List.perm_ext_iff_of_nodup hnd List.nodup_range).2 fun j => ?_
      rw [List.mem_range]
      constructor
      · intro hj
        obtain ⟨p, hp, rfl⟩ := List.mem_map.1 hj
        exact (hlt p hp).1
      · exact hcov j
    rw [hp.length_eq, List.length_range]
  exact evD_main (K := fun T S => Q .normal T S) hnd h1 h2 hcov hinb ops.size _ d2 r2 S c w.drew a hD2 hn2 (fun p hp => (hlt p (hs2 p hp)).2) hev2 hcnt _ (fun T' S' c' w' a' g1 g2 g3 g4 g5 g6 => ⟨T', S', c', g1, hdr.2.trans g2, g3, g4, g5, g6⟩)
/-- .. where either of two operations may come first: both orders are to be shown. -/
theorem TWp.draw2 {id : Nat} {Q : Exit → (Nat → TV) → TS → Prop} {T : Nat → TV} {S : TS} (hm : E.P.follows .mixedOrders = true) (pre t1 t2 : List Ent2) (i1 j1 ka kb : Nat) (hka : ka ≤ 1) (hkb : kb ≤ 1) (hc : chkD5 ops (pre ++ (i1, 10 + 4 * j1 + ka) :: t1) = true) (hc2 : chkD5 ops (pre ++ (j1, 10 + 4 * i1 + kb) :: t2) = true) (h4 : (pre ++ t1 ++ t2).all (fun p => okK p.2) = true) (h : evD E N ops pre (fun T S => evD E N ops ((i1, 1 + ka) :: t1) (fun T S => Q .normal T S) T S ∧ evD E N ops ((j1, 1 + kb) :: t2) (fun T S => Q .normal T S) T S) T S) : TWp E N (.region id ops true) Q T S := by
  intro hi w0 c w a hk ht hs
  have hpp : ∀ p ∈ pre ++ t1 ++ t2, okK p.2 = true := fun p hp => List.all_eq_true.1 h4 p hp
  clear h4
  unfold chkD5 at hc hc2
  simp only [Bool.and_eq_true] at hc hc2
  obtain ⟨⟨⟨⟨g1, g2⟩, g3⟩, g4⟩, g5⟩ := hc2
  obtain ⟨⟨⟨⟨h1, h2⟩, h3⟩, h4⟩, h5⟩ := hc
  have hcov2 : ∀ i, i < ops.size → i ∈ (pre ++ (j1, 10 + 4 * i1 + kb) :: t2).map (·.1) := fun i hi => by
    have := List.all_eq_true.1 g4 i (List.mem_range.2 hi)
    simpa using this
  have hnd2 := noDup_iff g3
  generalize hl : pre ++ (i1, 10 + 4 * j1 + ka) :: t1 = l at *
  have hnd := noDup_iff h3
  have hlt : ∀ p ∈ l, p.1 < ops.size := fun p hp => by
    have := List.all_eq_true.1 h5 p hp
    simpa using this
  have hlt2 : ∀ p ∈ pre ++ (j1, 10 + 4 * i1 + kb) :: t2, p.1 < ops.size := fun p hp => by
    have := List.all_eq_true.1 g5 p hp
    simpa using this
  have hcov : ∀ i, i < ops.size → i ∈ l.map (·.1) := fun i hi => by
    have := List.all_eq_true.1 h4 i (List.mem_range.2 hi)
    simpa using this
  have hinb : ∀ o ∈ ops.toList, opInb N o = true := fun o ho => List.all_eq_true.1 hi o ho
  have hfalse : ∀ j, (Array.replicate ops.size false).getD j false = false := by
    intro j
    rw [Array.getD_eq_getD_getElem?, Array.getElem?_replicate]
    split <;> rfl
  refine wp_region_any hm ?_
  have hdr := hk.rel.drew
  have hD : Dr E N ops l T w0 (Array.replicate ops.size false) [] l S c w.drew a :=
    ⟨rfl, by simp, fun p _ => hfalse _, fun i o _ h => (by rw [hfalse] at h; cases h), hk.step hdr.1 hdr.2, by simpa [up, pr, ov_nil] using ht.step hdr.2, hs, fun pre p v suf h _ => by simp at h⟩
  rw [← hl] at hD
  obtain ⟨d2, r2, hs2, hD2, hev2, hn2⟩ := Dr.normalT hnd h2 pre [] (by rw [hl] at hD ⊢; exact hD) h
  have hcnt : ((l.map (·.1)).filter fun j => !(Array.replicate ops.size false).getD j false).length = ops.size := by
    have : (l.map (·.1)).filter (fun j => !(Array.replicate ops.size false).getD j false) = l.map (·.1) := by
      apply List.filter_eq_self.2
      intro j _
      rw [hfalse]; rfl
    rw [this]
    have hp : (l.map (·.1)).Perm (List.range ops.size) := by
      refine (List.perm_ext_iff_of_nodup hnd List.nodup_range).2 fun j => ?_
      rw [List.mem_range]
      constructor
      · intro hj
        obtain ⟨p, hp, rfl⟩ := List.mem_map.1 hj
        exact hlt p hp
      · exact hcov j
    rw [hp.length_eq, List.length_range]
  have hperm : ((pre ++ (j1, 10 + 4 * i1 + kb) :: t2).map (·.1)).Perm (l.map (·.1)) := (List.perm_ext_iff_of_nodup hnd2 hnd).2 fun j => ⟨fun hj => by
    obtain ⟨p, hp, rfl⟩ := List.mem_map.1 hj
    exact hcov _ (hlt2 p hp), fun hj => by
    obtain ⟨p, hp, rfl⟩ := List.mem_map.1 hj
    exact hcov2 _ (hlt p hp)⟩
  exact evB_main (K := fun T S => Q .normal T S) (l2 := pre ++ (j1, 10 + 4 * i1 + kb) :: t2) (pre0 := pre) (t1 := t1) (t2 := t2) (i1 := i1) (j1 := j1) (ka := ka) (kb := kb) hka hkb hl.symm rfl hnd h1 h2 hcov hnd2 g1 g2 hcov2 (fun p hp => hpp p (by simp [hp])) (fun p hp => hpp p (by simp [hp])) hperm hinb ops.size _ d2 r2 S c w.drew a hD2 hn2 (fun p hp => hpp p (by simp [hs2 p hp])) hev2 hcnt _ (fun T' S' c' w' a' g1 g2 g3 g4 g5 g6 => ⟨T', S', c', g1, hdr.2.trans g2, g3, g4, g5, g6⟩)
end
end Go.Proofs.YtlljknmojafkoaaGreatDoor.TL
namespace Go.Proofs.YtlljknmojafkoaaGreatDoor.TL
open Go.RowKit
section
variable {E : Env} {N : Nat} {Q : Exit → (Nat → TV) → TS → Prop} {T : Nat → TV} {S : TS}
theorem TWp.seq_k {x y : Code} (h : ∀ K : (Nat → TV) → TS → Prop, (∀ T S, TWp E N y Q T S → K T S) → TWp E N x (thenT K Q) T S) : TWp E N (.seq x y) Q T S :=
  .seq (h _ fun _ _ h => h)
theorem TWp.sr {id : Nat} {ops : Array Oper} {y : Code} (h : ∀ K : (Nat → TV) → TS → Prop, (∀ T S, TWp E N y Q T S → K T S) → evL E N ops ops.toList K T S) : TWp E N (.seq (.region id ops false) y) Q T S :=
  .seq_k fun K hK => .reg (h K hK)
theorem TWp.sd {id : Nat} {ops : Array Oper} {y : Code} (l : List Ent2) (hm : E.P.follows .mixedOrders = true) (hc : chkD ops l = true) (h : ∀ K : (Nat → TV) → TS → Prop, (∀ T S, TWp E N y Q T S → K T S) → evD E N ops l K T S) : TWp E N (.seq (.region id ops true) y) Q T S :=
  .seq_k fun K hK => .draw hm l hc (h K hK)
theorem TWp.rk {id : Nat} {ops : Array Oper} (h : ∀ K : (Nat → TV) → TS → Prop, (∀ T S, Q .normal T S → K T S) → evL E N ops ops.toList K T S) : TWp E N (.region id ops false) Q T S :=
  .reg (h _ fun _ _ h => h)
theorem TWp.dk {id : Nat} {ops : Array Oper} (l : List Ent2) (hm : E.P.follows .mixedOrders = true) (hc : chkD ops l = true) (h : ∀ K : (Nat → TV) → TS → Prop, (∀ T S, Q .normal T S → K T S) → evD E N ops l K T S) : TWp E N (.region id ops true) Q T S :=
  .draw hm l hc (h _ fun _ _ h => h)
end
/-! ### words -/
abbrev w8 (x : BitVec 8) : Value := .int .u8 (x.toNat : Int)
abbrev w16 (x : BitVec 16) : Value := .int .u16 (x.toNat : Int)
abbrev w32 (x : BitVec 32) : Value := .int .u32 (x.toNat : Int)
abbrev w64 (x : BitVec 64) : Value := .int .u64 (x.toNat : Int)
def dB (bs : List (BitVec 8)) : List D := bs.map fun b => .lit (w8 b)
theorem wrap_un {k : IntKind} (hs : k.signed = false) (a : Int) : k.wrap a = ((BitVec.ofInt k.bits a).toNat : Int) := by
  unfold IntKind.wrap
  simp only [hs, Bool.false_and, Bool.false_eq_true, if_false, BitVec.toNat_ofInt]
  have hp : ((2 ^ k.bits : Nat) : Int) ≠ 0 := by have := Nat.two_pow_pos k.bits; omega
  rw [Int.toNat_of_nonneg (Int.emod_nonneg _ hp)]
  push_cast; rfl
theorem wrap_nat {k : IntKind} (hs : k.signed = false) {n : Nat} (h : n < 2 ^ k.bits) : k.wrap (n : Int) = (n : Int) := by
  rw [wrap_un hs, BitVec.ofInt_natCast, BitVec.toNat_ofNat, Nat.mod_eq_of_lt h]
theorem wrap_bv {k : IntKind} (hs : k.signed = false) (x : BitVec k.bits) : k.wrap (x.toNat : Int) = (x.toNat : Int) := wrap_nat hs x.isLt
theorem wrapU8 (a : Int) : IntKind.wrap .u8 a = ((BitVec.ofInt 8 a).toNat : Int) := wrap_un (k := .u8) rfl a
theorem wrapU16 (a : Int) : IntKind.wrap .u16 a = ((BitVec.ofInt 16 a).toNat : Int) := wrap_un (k := .u16) rfl a
theorem wrapU32 (a : Int) : IntKind.wrap .u32 a = ((BitVec.ofInt 32 a).toNat : Int) := wrap_un (k := .u32) rfl a
theorem wrapU64 (a : Int) : IntKind.wrap .u64 a = ((BitVec.ofInt 64 a).toNat : Int) := wrap_un (k := .u64) rfl a
theorem wrapI {n : Int} (h : -9223372036854775808 ≤ n ∧ n < 9223372036854775808) : IntKind.wrap .i64 n = n := by
  have h1 : ((2 : Int) ^ IntKind.i64.bits) = 18446744073709551616 := by decide
  have h2 : ((2 : Int) ^ (IntKind.i64.bits - 1)) = 9223372036854775808 := by decide
  have hs : IntKind.i64.signed = true := rfl
  unfold IntKind.wrap
  simp only [h1, h2, hs, Bool.true_and, decide_eq_true_eq]
  split <;> omega
section
variable (P : Program) (ty : TypeId) (a b : Int) (k : IntKind)
theorem un_add (hs : k.signed = false) : tvBin P .add ty (.int k a) (.int k b) = some (.int k ((BitVec.ofInt k.bits a + BitVec.ofInt k.bits b).toNat : Int)) := by
  simp only [tvBin, tvInt, wrap_un hs, BitVec.ofInt_add]; simp
theorem un_mul (hs : k.signed = false) : tvBin P .mul ty (.int k a) (.int k b) = some (.int k ((BitVec.ofInt k.bits a * BitVec.ofInt k.bits b).toNat : Int)) := by
  simp only [tvBin, tvInt, wrap_un hs, BitVec.ofInt_mul]; simp
theorem un_sub (hs : k.signed = false) : tvBin P .sub ty (.int k a) (.int k b) = some (.int k ((BitVec.ofInt k.bits a - BitVec.ofInt k.bits b).toNat : Int)) := by
  simp only [tvBin, tvInt, wrap_un hs]
  have : BitVec.ofInt k.bits (a - b) = BitVec.ofInt k.bits a - BitVec.ofInt k.bits b := by
    rw [Int.sub_eq_add_neg, BitVec.ofInt_add, BitVec.ofInt_neg, BitVec.sub_eq_add_neg]
  simp [this]
theorem un_and (hs : k.signed = false) : tvBin P .and ty (.int k a) (.int k b) = some (.int k ((BitVec.ofInt k.bits a &&& BitVec.ofInt k.bits b).toNat : Int)) := by
  simp only [tvBin, tvInt, bitsOf, wrap_bv hs]; simp
theorem un_or (hs : k.signed = false) : tvBin P .or ty (.int k a) (.int k b) = some (.int k ((BitVec.ofInt k.bits a ||| BitVec.ofInt k.bits b).toNat : Int)) := by
  simp only [tvBin, tvInt, bitsOf, wrap_bv hs]; simp
theorem un_xor (hs : k.signed = false) : tvBin P .xor ty (.int k a) (.int k b) = some (.int k ((BitVec.ofInt k.bits a ^^^ BitVec.ofInt k.bits b).toNat : Int)) := by
  simp only [tvBin, tvInt, bitsOf, wrap_bv hs]; simp
theorem un_shl (hs : k.signed = false) {k' : IntKind} {c : Int} (hc : 0 ≤ c) : tvBin P .shl ty (.int k a) (.int k' c) = some (.int k ((BitVec.ofInt k.bits a <<< c.toNat).toNat : Int)) := by
  simp only [tvBin, tvShift, wrap_un hs]
  rw [if_pos (Or.inl trivial), if_neg (by omega)]
  have : BitVec.ofInt k.bits (a * 2 ^ min c.toNat k.bits) = BitVec.ofInt k.bits a <<< c.toNat := by
    have h2 : ((2 : Int) ^ min c.toNat k.bits) = ((2 ^ min c.toNat k.bits : Nat) : Int) := by push_cast; rfl
    rw [BitVec.ofInt_mul, BitVec.shiftLeft_eq_mul_twoPow, h2, BitVec.ofInt_natCast]
    congr 1
    apply BitVec.eq_of_toNat_eq
    rw [BitVec.toNat_ofNat, BitVec.toNat_twoPow]
    rcases Nat.le_total c.toNat k.bits with hle | hle
    · rw [Nat.min_eq_left hle]
    · rw [Nat.min_eq_right hle, Nat.mod_self, Nat.mod_eq_zero_of_dvd (Nat.pow_dvd_pow 2 hle)]
  rw [this]
theorem un_shr (x : Nat) {k' : IntKind} {c : Int} (hc : 0 ≤ c) (hx : x < 2 ^ k.bits) : tvBin P .shr ty (.int k (x : Int)) (.int k' c) = some (.int k ((BitVec.ofNat k.bits x >>> c.toNat).toNat : Int)) := by
  simp only [tvBin, tvShift]
  rw [if_pos (Or.inr trivial), if_neg (by omega)]
  have : (x : Int).fdiv (2 ^ min c.toNat k.bits) = ((BitVec.ofNat k.bits x >>> c.toNat).toNat : Int) := by
    have h2 : ((2 : Int) ^ min c.toNat k.bits) = ((2 ^ min c.toNat k.bits : Nat) : Int) := by push_cast; rfl
    rw [BitVec.toNat_ushiftRight, Nat.shiftRight_eq_div_pow, BitVec.toNat_ofNat, Nat.mod_eq_of_lt hx, h2, Int.fdiv_eq_ediv_of_nonneg _ (Int.natCast_nonneg _)]
    rcases Nat.le_total c.toNat k.bits with hle | hle
    · rw [Nat.min_eq_left hle]; rfl
    · rw [Nat.min_eq_right hle, Nat.div_eq_of_lt (Nat.lt_of_lt_of_le hx (Nat.pow_le_pow_right (by omega) hle))]
      rw [← Int.natCast_ediv, Nat.div_eq_of_lt hx]
  rw [this]
theorem un_not (hs : k.signed = false) (x : BitVec k.bits) : tvUn .xor (.int k (x.toNat : Int)) = some (.int k ((~~~ x).toNat : Int)) := by
  simp only [tvUn, hs, bitsOf, wrap_bv hs]
  congr 2
  have : BitVec.ofInt k.bits k.max = BitVec.allOnes k.bits := by
    unfold IntKind.max
    simp only [hs]
    apply BitVec.eq_of_toNat_eq
    have hp := Nat.two_pow_pos k.bits
    have h1 : ((2 : Int) ^ k.bits - 1) = ((2 ^ k.bits - 1 : Nat) : Int) := by push_cast [Nat.one_le_two_pow]; rfl
    simp only [Bool.false_eq_true, if_false]
    rw [h1, BitVec.ofInt_natCast, BitVec.toNat_ofNat, BitVec.toNat_allOnes, Nat.mod_eq_of_lt (by omega)]
  simp [this, BitVec.allOnes_xor]
end
section
variable (P : Program) (ty : TypeId) (a b : Int)
theorem add8 : tvBin P .add ty (.int .u8 a) (.int .u8 b) = some (w8 (BitVec.ofInt 8 a + BitVec.ofInt 8 b)) := un_add P ty a b _ rfl
theorem sub8 : tvBin P .sub ty (.int .u8 a) (.int .u8 b) = some (w8 (BitVec.ofInt 8 a - BitVec.ofInt 8 b)) := un_sub P ty a b _ rfl
theorem mul8 : tvBin P .mul ty (.int .u8 a) (.int .u8 b) = some (w8 (BitVec.ofInt 8 a * BitVec.ofInt 8 b)) := un_mul P ty a b _ rfl
theorem and8 : tvBin P .and ty (.int .u8 a) (.int .u8 b) = some (w8 (BitVec.ofInt 8 a &&& BitVec.ofInt 8 b)) := un_and P ty a b _ rfl
theorem or8 : tvBin P .or ty (.int .u8 a) (.int .u8 b) = some (w8 (BitVec.ofInt 8 a ||| BitVec.ofInt 8 b)) := un_or P ty a b _ rfl
theorem xor8 : tvBin P .xor ty (.int .u8 a) (.int .u8 b) = some (w8 (BitVec.ofInt 8 a ^^^ BitVec.ofInt 8 b)) := un_xor P ty a b _ rfl
theorem shl8 {k' : IntKind} (h : 0 ≤ b) : tvBin P .shl ty (.int .u8 a) (.int k' b) = some (w8 (BitVec.ofInt 8 a <<< b.toNat)) := un_shl P ty a _ rfl h
theorem shr8 {k' : IntKind} (x : BitVec 8) (h : 0 ≤ b) : tvBin P .shr ty (w8 x) (.int k' b) = some (w8 (x >>> b.toNat)) := by
  have h1 := un_shr P ty .u8 x.toNat (k' := k') h x.isLt
  have h2 : BitVec.ofNat 8 x.toNat = x := by simp
  rw [h1]
  change some (Value.int .u8 ((BitVec.ofNat 8 x.toNat >>> b.toNat).toNat : Int)) = _
  rw [h2]
theorem not8 (x : BitVec 8) : tvUn .xor (w8 x) = some (w8 (~~~ x)) := un_not .u8 rfl x
theorem add16 : tvBin P .add ty (.int .u16 a) (.int .u16 b) = some (w16 (BitVec.ofInt 16 a + BitVec.ofInt 16 b)) := un_add P ty a b _ rfl
theorem sub16 : tvBin P .sub ty (.int .u16 a) (.int .u16 b) = some (w16 (BitVec.ofInt 16 a - BitVec.ofInt 16 b)) := un_sub P ty a b _ rfl
theorem mul16 : tvBin P .mul ty (.int .u16 a) (.int .u16 b) = some (w16 (BitVec.ofInt 16 a * BitVec.ofInt 16 b)) := un_mul P ty a b _ rfl
theorem and16 : tvBin P .and ty (.int .u16 a) (.int .u16 b) = some (w16 (BitVec.ofInt 16 a &&& BitVec.ofInt 16 b)) := un_and P ty a b _ rfl
theorem or16 : tvBin P .or ty (.int .u16 a) (.int .u16 b) = some (w16 (BitVec.ofInt 16 a ||| BitVec.ofInt 16 b)) := un_or P ty a b _ rfl
theorem xor16 : tvBin P .xor ty (.int .u16 a) (.int .u16 b) = some (w16 (BitVec.ofInt 16 a ^^^ BitVec.ofInt 16 b)) := un_xor P ty a b _ rfl
theorem shl16 {k' : IntKind} (h : 0 ≤ b) : tvBin P .shl ty (.int .u16 a) (.int k' b) = some (w16 (BitVec.ofInt 16 a <<< b.toNat)) := un_shl P ty a _ rfl h
theorem shr16 {k' : IntKind} (x : BitVec 16) (h : 0 ≤ b) : tvBin P .shr ty (w16 x) (.int k' b) = some (w16 (x >>> b.toNat)) := by
  have h1 := un_shr P ty .u16 x.toNat (k' := k') h x.isLt
  have h2 : BitVec.ofNat 16 x.toNat = x := by simp
  rw [h1]
  change some (Value.int .u16 ((BitVec.ofNat 16 x.toNat >>> b.toNat).toNat : Int)) = _
  rw [h2]
theorem not16 (x : BitVec 16) : tvUn .xor (w16 x) = some (w16 (~~~ x)) := un_not .u16 rfl x
theorem add32 : tvBin P .add ty (.int .u32 a) (.int .u32 b) = some (w32 (BitVec.ofInt 32 a + BitVec.ofInt 32 b)) := un_add P ty a b _ rfl
theorem sub32 : tvBin P .sub ty (.int .u32 a) (.int .u32 b) = some (w32 (BitVec.ofInt 32 a - BitVec.ofInt 32 b)) := un_sub P ty a b _ rfl
theorem mul32 : tvBin P .mul ty (.int .u32 a) (.int .u32 b) = some (w32 (BitVec.ofInt 32 a * BitVec.ofInt 32 b)) := un_mul P ty a b _ rfl
theorem and32 : tvBin P .and ty (.int .u32 a) (.int .u32 b) = some (w32 (BitVec.ofInt 32 a &&& BitVec.ofInt 32 b)) := un_and P ty a b _ rfl
theorem or32 : tvBin P .or ty (.int .u32 a) (.int .u32 b) = some (w32 (BitVec.ofInt 32 a ||| BitVec.ofInt 32 b)) := un_or P ty a b _ rfl
theorem xor32 : tvBin P .xor ty (.int .u32 a) (.int .u32 b) = some (w32 (BitVec.ofInt 32 a ^^^ BitVec.ofInt 32 b)) := un_xor P ty a b _ rfl
theorem shl32 {k' : IntKind} (h : 0 ≤ b) : tvBin P .shl ty (.int .u32 a) (.int k' b) = some (w32 (BitVec.ofInt 32 a <<< b.toNat)) := un_shl P ty a _ rfl h
theorem shr32 {k' : IntKind} (x : BitVec 32) (h : 0 ≤ b) : tvBin P .shr ty (w32 x) (.int k' b) = some (w32 (x >>> b.toNat)) := by
  have h1 := un_shr P ty .u32 x.toNat (k' := k') h x.isLt
  have h2 : BitVec.ofNat 32 x.toNat = x := by simp
  rw [h1]
  change some (Value.int .u32 ((BitVec.ofNat 32 x.toNat >>> b.toNat).toNat : Int)) = _
  rw [h2]
theorem not32 (x : BitVec 32) : tvUn .xor (w32 x) = some (w32 (~~~ x)) := un_not .u32 rfl x
theorem add64 : tvBin P .add ty (.int .u64 a) (.int .u64 b) = some (w64 (BitVec.ofInt 64 a + BitVec.ofInt 64 b)) := un_add P ty a b _ rfl
theorem sub64 : tvBin P .sub ty (.int .u64 a) (.int .u64 b) = some (w64 (BitVec.ofInt 64 a - BitVec.ofInt 64 b)) := un_sub P ty a b _ rfl
theorem mul64 : tvBin P .mul ty (.int .u64 a) (.int .u64 b) = some (w64 (BitVec.ofInt 64 a * BitVec.ofInt 64 b)) := un_mul P ty a b _ rfl
theorem and64 : tvBin P .and ty (.int .u64 a) (.int .u64 b) = some (w64 (BitVec.ofInt 64 a &&& BitVec.ofInt 64 b)) := un_and P ty a b _ rfl
theorem or64 : tvBin P .or ty (.int .u64 a) (.int .u64 b) = some (w64 (BitVec.ofInt 64 a ||| BitVec.ofInt 64 b)) := un_or P ty a b _ rfl
theorem xor64 : tvBin P .xor ty (.int .u64 a) (.int .u64 b) = some (w64 (BitVec.ofInt 64 a ^^^ BitVec.ofInt 64 b)) := un_xor P ty a b _ rfl
theorem shl64 {k' : IntKind} (h : 0 ≤ b) : tvBin P .shl ty (.int .u64 a) (.int k' b) = some (w64 (BitVec.ofInt 64 a <<< b.toNat)) := un_shl P ty a _ rfl h
theorem shr64 {k' : IntKind} (x : BitVec 64) (h : 0 ≤ b) : tvBin P .shr ty (w64 x) (.int k' b) = some (w64 (x >>> b.toNat)) := by
  have h1 := un_shr P ty .u64 x.toNat (k' := k') h x.isLt
  have h2 : BitVec.ofNat 64 x.toNat = x := by simp
  rw [h1]
  change some (Value.int .u64 ((BitVec.ofNat 64 x.toNat >>> b.toNat).toNat : Int)) = _
  rw [h2]
theorem not64 (x : BitVec 64) : tvUn .xor (w64 x) = some (w64 (~~~ x)) := un_not .u64 rfl x
theorem addI (h : -9223372036854775808 ≤ a + b ∧ a + b < 9223372036854775808) : tvBin P .add ty (.int .i64 a) (.int .i64 b) = some (.int .i64 (a + b)) := by simp only [tvBin, tvInt, wrapI h]; simp
theorem subI (h : -9223372036854775808 ≤ a - b ∧ a - b < 9223372036854775808) : tvBin P .sub ty (.int .i64 a) (.int .i64 b) = some (.int .i64 (a - b)) := by simp only [tvBin, tvInt, wrapI h]; simp
theorem mulI (h : -9223372036854775808 ≤ a * b ∧ a * b < 9223372036854775808) : tvBin P .mul ty (.int .i64 a) (.int .i64 b) = some (.int .i64 (a * b)) := by simp only [tvBin, tvInt, wrapI h]; simp
theorem remI (h : b ≠ 0) : tvBin P .rem ty (.int .i64 a) (.int .i64 b) = some (.int .i64 (a.tmod b)) := by simp [tvBin, tvInt, h]
theorem quoI (h : b ≠ 0) (h2 : -9223372036854775808 ≤ a.tdiv b ∧ a.tdiv b < 9223372036854775808) : tvBin P .quo ty (.int .i64 a) (.int .i64 b) = some (.int .i64 (a.tdiv b)) := by simp [tvBin, tvInt, h, wrapI h2]
theorem eqlI {k : IntKind} : tvBin P .eql ty (.int k a) (.int k b) = some (.bool (decide (a = b))) := by
  simp only [tvBin, tvInt]
  rw [if_neg (by simp)]
  first | (rw [if_pos trivial]; done) | (rw [if_pos trivial]; exact congrArg (fun b => some (Value.bool b)) (by rw [Bool.eq_iff_iff]; simp))
theorem neqI {k : IntKind} : tvBin P .neq ty (.int k a) (.int k b) = some (.bool (decide (a ≠ b))) := by
  simp only [tvBin, tvInt]
  rw [if_neg (by simp)]
  first | (rw [if_pos trivial]; done) | (rw [if_pos trivial]; exact congrArg (fun b => some (Value.bool b)) (by rw [Bool.eq_iff_iff]; simp))
theorem lssI {k : IntKind} : tvBin P .lss ty (.int k a) (.int k b) = some (.bool (decide (a < b))) := by
  simp only [tvBin, tvInt]
  rw [if_neg (by simp)]
  first | (rw [if_pos trivial]; done) | (rw [if_pos trivial]; exact congrArg (fun b => some (Value.bool b)) (by rw [Bool.eq_iff_iff]; simp))
theorem leqI {k : IntKind} : tvBin P .leq ty (.int k a) (.int k b) = some (.bool (decide (a ≤ b))) := by
  simp only [tvBin, tvInt]
  rw [if_neg (by simp)]
  first | (rw [if_pos trivial]; done) | (rw [if_pos trivial]; exact congrArg (fun b => some (Value.bool b)) (by rw [Bool.eq_iff_iff]; simp))
theorem gtrI {k : IntKind} : tvBin P .gtr ty (.int k a) (.int k b) = some (.bool (decide (b < a))) := by
  simp only [tvBin, tvInt]
  rw [if_neg (by simp)]
  first | (rw [if_pos trivial]; done) | (rw [if_pos trivial]; exact congrArg (fun b => some (Value.bool b)) (by rw [Bool.eq_iff_iff]; simp))
theorem geqI {k : IntKind} : tvBin P .geq ty (.int k a) (.int k b) = some (.bool (decide (b ≤ a))) := by
  simp only [tvBin, tvInt]
  rw [if_neg (by simp)]
  first | (rw [if_pos trivial]; done) | (rw [if_pos trivial]; exact congrArg (fun b => some (Value.bool b)) (by rw [Bool.eq_iff_iff]; simp))
end
theorem rem64 (P : Program) (ty : TypeId) (x : BitVec 64) (b : Int) (h : 0 < b ∧ b < 18446744073709551616) : tvBin P .rem ty (w64 x) (.int .u64 b) = some (w64 (x % BitVec.ofInt 64 b)) := by
  obtain ⟨n, rfl⟩ : ∃ n : Nat, b = (n : Int) := ⟨b.toNat, by omega⟩
  simp only [tvBin, tvInt]
  rw [if_neg (by simp), if_pos trivial, if_neg (by omega), BitVec.ofInt_natCast]
  show some (Value.int .u64 _) = some (Value.int .u64 ((x % BitVec.ofNat 64 n).toNat : Int))
  rw [BitVec.toNat_umod, BitVec.toNat_ofNat, Nat.mod_eq_of_lt (a := n) (by omega), Int.ofNat_tmod]
theorem un_notB (b : Bool) : tvUn .not (.bool b) = some (.bool (!b)) := rfl
theorem dB_len (bs : List (BitVec 8)) : (dB bs).length = bs.length := by simp [dB]
theorem dB_app (a b : List (BitVec 8)) : dB (a ++ b) = dB a ++ dB b := by simp [dB]
theorem dB_get {bs : List (BitVec 8)} {i : Nat} (h : i < bs.length) : (dB bs).getD i default = .lit (w8 (bs.getD i 0)) := by
  simp [dB, List.getD_eq_getElem?_getD, List.getElem?_map, List.getElem?_eq_getElem h]
theorem dB_drop (bs : List (BitVec 8)) (n : Nat) : (dB bs).drop n = dB (bs.drop n) := by simp [dB, List.map_drop]
theorem dB_take (bs : List (BitVec 8)) (n : Nat) : (dB bs).take n = dB (bs.take n) := by simp [dB, List.map_take]
theorem Keep.set {S0 S : TS} (h : Keep S0 S) {id : Nat} (hi : S0.n ≤ id) (o : TObj) : Keep S0 (S.set id o) :=
  ⟨h.1, fun j hj => by simp only [TS.set]; rw [if_neg (by omega)]; exact h.2 j hj⟩
theorem Keep.push' {S0 S : TS} (h : Keep S0 S) (o : TObj) : Keep S0 (S.push o) := h.trans (.push S o)
theorem push_self (S : TS) (o : TObj) : (S.push o).objs S.n = o := by simp [TS.push]
theorem TWp.cut {E : Env} {N : Nat} {code : Code} {Q : Exit → (Nat → TV) → TS → Prop} {T T' : Nat → TV} {S : TS} (h : ∀ i, T' i = T i ∨ T' i = .unk) (hw : TWp E N code Q T' S) : TWp E N code Q T S := by
  intro hi w0 c w a hk ht hs
  refine hw hi w0 c w a hk (fun i v hv => ?_) hs
  rcases h i with h | h
  · rw [h]; exact ht i v hv
  · rw [h]; exact .unk v
def partsL (E : Env) (T : Nat → TV) : List (Nat × Operand) → List (Nat × TV)
  | [] => []
  | (i, x) :: l => (i, evO E T x) :: partsL E T l
theorem partsT_eq (E : Env) (T : Nat → TV) (ps : Array (Nat × Operand)) : partsT E T ps = partsL E T ps.toList := by
  unfold partsT
  induction ps.toList with
  | nil => rfl
  | cons p l ih => simp [partsL, ih]
attribute [go_sem ↓] partsT_eq
attribute [go_sem] partsL
def tvSl (g : Tag) (s : Nat) (xs : List D) (n : Nat) (lo hi : Option Int) : Option TV :=
  match hi with
  | none => if 0 ≤ lo.getD 0 ∧ lo.getD 0 ≤ n then some (.sl g s (xs.drop (lo.getD 0).toNat)) else none
  | some h => if 0 ≤ lo.getD 0 ∧ lo.getD 0 ≤ h ∧ h ≤ n then some (.sl .none s ((xs.take h.toNat).drop (lo.getD 0).toNat)) else none
theorem tvSlice_sl (g : Tag) (s : Nat) (xs : List D) (lo hi : Option Int) : tvSlice s (.sl g s xs) lo hi none = tvSl g s xs xs.length lo hi := by
  unfold tvSlice tvSl
  simp only
  rw [if_pos trivial]
  cases hi <;> rfl
theorem tvSl_lo {g : Tag} {s n : Nat} {xs : List D} {l : Int} (h : 0 ≤ l ∧ l ≤ n) : tvSl g s xs n (some l) none = some (.sl g s (xs.drop l.toNat)) := if_pos h
theorem tvSl_hi {g : Tag} {s n : Nat} {xs : List D} {h' : Int} (h : 0 ≤ h' ∧ h' ≤ n) : tvSl g s xs n none (some h') = some (.sl .none s (xs.take h'.toNat)) := by
  unfold tvSl; simp only [Option.getD_none]; rw [if_pos (by omega)]; simp
theorem tvSl_lh {g : Tag} {s n : Nat} {xs : List D} {l h' : Int} (h : 0 ≤ l ∧ l ≤ h' ∧ h' ≤ n) : tvSl g s xs n (some l) (some h') = some (.sl .none s ((xs.take h'.toNat).drop l.toNat)) := if_pos h
theorem tvSl_no {g : Tag} {s n : Nat} {xs : List D} : tvSl g s xs n none none = some (.sl g s xs) := by
  unfold tvSl; simp only [Option.getD_none]; rw [if_pos (by omega)]; simp
theorem dB_one (b : BitVec 8) : [D.lit (w8 b)] = dB [b] := rfl
theorem TCall.of {E : Env} {f : FuncId} {fn : Func} {body : Code} {args : List TV} {S : TS} {R : TV → TS → Prop} (N : Nat) (rs : List ResultVar) (hf : E.P.funcs[f]? = some fn) (hb : fn.body = some body) (hname : (fn.name == "runtime.NumGoroutine") = false)
    (hN : args.length + (fn.ntmps - args.length) = N) (hrs : fn.results.toList = rs) (hin : codeInb N body = true) (hres : rs.all (resInb N) = true)
    (h : TWp E N body (fun e T S' => (e = .normal ∨ e = .ret) ∧ ∃ ts, resAll E T S' rs ts ∧ R (tupT ts) S') (argsT args) S) : TCall E f args S R := by
  subst hrs
  exact .of_body hf hb hname hN hin hres h
/-- What stands behind an operation: opened where the value is known, and not before. -/
def evK (E : Env) (N : Nat) (ops : Array Oper) (l : List Oper) (K : (Nat → TV) → TS → Prop) (T : Nat → TV) (dst : Option Nat) : TV → TS → Prop := fun t S' => evL E N ops l K (putT T dst t) S'
/-- An operation behind a guard whose value isn't known yet. -/
def brT (b : Value) (want : Bool) (E : Env) (N : Nat) (ops : Array Oper) (o : Oper) (l : List Oper) (K : (Nat → TV) → TS → Prop) (T : Nat → TV) (S : TS) : Prop :=
  (bOf b = some want → opT E o T S (evK E N ops l K T o.dst)) ∧ (bOf b ≠ some want → evL E N ops l K (putT T o.dst (.lit undef)) S)
section
variable {E : Env} {N : Nat} {ops : Array Oper} {o : Oper} {l : List Oper} {K : (Nat → TV) → TS → Prop} {T : Nat → TV} {S : TS}
theorem brT_tt : brT (.bool true) true E N ops o l K T S = opT E o T S (evK E N ops l K T o.dst) := by simp [brT, bOf]
theorem brT_ff : brT (.bool false) false E N ops o l K T S = opT E o T S (evK E N ops l K T o.dst) := by simp [brT, bOf]
theorem brT_tf : brT (.bool true) false E N ops o l K T S = evL E N ops l K (putT T o.dst (.lit undef)) S := by simp [brT, bOf]
theorem brT_ft : brT (.bool false) true E N ops o l K T S = evL E N ops l K (putT T o.dst (.lit undef)) S := by simp [brT, bOf]
theorem brT_un {w : Bool} : brT undef w E N ops o l K T S = evL E N ops l K (putT T o.dst (.lit undef)) S := by simp [brT, bOf, undef]
theorem brT_split {b want : Bool} (h1 : b = true → brT (.bool true) want E N ops o l K T S) (h2 : b = false → brT (.bool false) want E N ops o l K T S) : brT (.bool b) want E N ops o l K T S := by
  cases b
  · exact h2 rfl
  · exact h1 rfl
end
def brD (b : Value) (want : Bool) (E : Env) (N : Nat) (ops : Array Oper) (o : Oper) (k : Nat) (l : List Ent2) (K : (Nat → TV) → TS → Prop) (T : Nat → TV) (S : TS) : Prop :=
  (bOf b = some want → if isQ k = true then qsT E o k T S fun v => evD E N ops l K (putT T o.dst v) S else opT E o T S fun t S' => sideD E ops k T S S' ∧ evD E N ops l K (putT T o.dst t) S') ∧ (bOf b ≠ some want → evD E N ops l K (putT T o.dst (.lit undef)) S)
theorem evK_app (E : Env) (N : Nat) (ops : Array Oper) (l : List Oper) (K : (Nat → TV) → TS → Prop) (T : Nat → TV) (dst : Option Nat) (t : TV) (S : TS) : evK E N ops l K T dst t S = evL E N ops l K (putT T dst t) S := rfl
theorem evL_nil (E : Env) (N : Nat) (ops : Array Oper) (K : (Nat → TV) → TS → Prop) (T : Nat → TV) (S : TS) : evL E N ops [] K T S = K T S := rfl
theorem evL_cons (E : Env) (N : Nat) (ops : Array Oper) (o : Oper) (l : List Oper) (K : (Nat → TV) → TS → Prop) (T : Nat → TV) (S : TS) : evL E N ops (o :: l) K T S =
    (match o.guard with
    | none => opT E o T S (evK E N ops l K T o.dst)
    | some (j, want) =>
      match (ops[j]?).bind (·.dst) with
      | some d =>
        match T d with
        | .lit b => d < N ∧ brT b want E N ops o l K T S
        | _ => False
      | none => False) := rfl
def evKD (E : Env) (N : Nat) (ops : Array Oper) (l : List Ent2) (K : (Nat → TV) → TS → Prop) (T : Nat → TV) (dst : Option Nat) (k : Nat) (S : TS) : TV → TS → Prop := fun t S' => sideD E ops k T S S' ∧ evD E N ops l K (putT T dst t) S'
theorem evKD_app (E : Env) (N : Nat) (ops : Array Oper) (l : List Ent2) (K : (Nat → TV) → TS → Prop) (T : Nat → TV) (dst : Option Nat) (k : Nat) (S : TS) (t : TV) (S' : TS) : evKD E N ops l K T dst k S t S' = (sideD E ops k T S S' ∧ evD E N ops l K (putT T dst t) S') := rfl
def evKQ (E : Env) (N : Nat) (ops : Array Oper) (l : List Ent2) (K : (Nat → TV) → TS → Prop) (T : Nat → TV) (dst : Option Nat) (S : TS) : TV → Prop := fun t => evD E N ops l K (putT T dst t) S
theorem evKQ_app (E : Env) (N : Nat) (ops : Array Oper) (l : List Ent2) (K : (Nat → TV) → TS → Prop) (T : Nat → TV) (dst : Option Nat) (S : TS) (t : TV) : evKQ E N ops l K T dst S t = evD E N ops l K (putT T dst t) S := rfl
theorem evD_nil (E : Env) (N : Nat) (ops : Array Oper) (K : (Nat → TV) → TS → Prop) (T : Nat → TV) (S : TS) : evD E N ops [] K T S = K T S := rfl
theorem evD_cons (E : Env) (N : Nat) (ops : Array Oper) (i k : Nat) (l : List Ent2) (K : (Nat → TV) → TS → Prop) (T : Nat → TV) (S : TS) : evD E N ops ((i, k) :: l) K T S =
    (match ops[i]? with
    | none => False
    | some o =>
      match o.guard with
      | none =>
        if isQ k = true then qsT E o k T S (evKQ E N ops l K T o.dst S)
        else opT E o T S (evKD E N ops l K T o.dst k S)
      | some (j, want) =>
        match (ops[j]?).bind (·.dst) with
        | some d =>
          match T d with
          | .lit b => d < N ∧ brD b want E N ops o k l K T S
          | _ => False
        | none => False) := rfl
section
variable {E : Env} {N k : Nat} {ops : Array Oper} {o : Oper} {l : List Ent2} {K : (Nat → TV) → TS → Prop} {T : Nat → TV} {S : TS}
theorem brD_tt : brD (.bool true) true E N ops o k l K T S = if isQ k = true then qsT E o k T S (evKQ E N ops l K T o.dst S) else opT E o T S (evKD E N ops l K T o.dst k S) := by simp [brD, bOf]; rfl
theorem brD_ff : brD (.bool false) false E N ops o k l K T S = if isQ k = true then qsT E o k T S (evKQ E N ops l K T o.dst S) else opT E o T S (evKD E N ops l K T o.dst k S) := by simp [brD, bOf]; rfl
theorem brD_tf : brD (.bool true) false E N ops o k l K T S = evD E N ops l K (putT T o.dst (.lit undef)) S := by simp [brD, bOf]
theorem brD_ft : brD (.bool false) true E N ops o k l K T S = evD E N ops l K (putT T o.dst (.lit undef)) S := by simp [brD, bOf]
theorem brD_un {w : Bool} : brD undef w E N ops o k l K T S = evD E N ops l K (putT T o.dst (.lit undef)) S := by simp [brD, bOf, undef]
end
def quK (K : TV → TS → Prop) (S : TS) : TV → Prop := fun v => K v S
theorem quK_app (K : TV → TS → Prop) (S : TS) (v : TV) : quK K S v = K v S := rfl
theorem oc_int (k : IntKind) (n : Int) : ofConst (.int k n) = .lit (.int k n) := rfl
theorem oc_bool (b : Bool) : ofConst (.bool b) = .lit (.bool b) := rfl
theorem oc_str (b : ByteArray) : ofConst (.string b) = .lit (.string b) := rfl
theorem oc_sl : ofConst (.slice none 0 0) = .sl .full 0 [] := rfl
theorem oc_ptr : ofConst (.pointer none) = .lit (.pointer none) := rfl
theorem oc_map : ofConst (.map none) = .lit (.map none) := rfl
theorem oc_nf : ofConst .nilFunc = .lit .nilFunc := rfl
theorem oc_fl (k : FloatKind) (b : Nat) : ofConst (.float k b) = .lit (.float k b) := rfl
theorem oc_nif : ofConst .nilIface = .lit .nilIface := rfl
theorem tmodN (m n : Nat) : (m : Int).tmod (no_index (OfNat.ofNat n : Int)) = ((m % OfNat.ofNat n : Nat) : Int) := by
  have : (OfNat.ofNat n : Int) = ((OfNat.ofNat n : Nat) : Int) := rfl
  rw [this, ← Int.ofNat_tmod]
theorem castMul (n m : Nat) : (no_index (OfNat.ofNat n : Int)) * (m : Int) = ((OfNat.ofNat n * m : Nat) : Int) := by
  have : (OfNat.ofNat n : Int) = ((OfNat.ofNat n : Nat) : Int) := rfl
  rw [this]; push_cast; rfl
theorem castMul2 (n m : Nat) : (m : Int) * (no_index (OfNat.ofNat n : Int)) = ((m * OfNat.ofNat n : Nat) : Int) := by
  have : (OfNat.ofNat n : Int) = ((OfNat.ofNat n : Nat) : Int) := rfl
  rw [this]; push_cast; rfl
theorem castAdd (n m : Nat) : (m : Int) + (no_index (OfNat.ofNat n : Int)) = ((m + OfNat.ofNat n : Nat) : Int) := by
  have : (OfNat.ofNat n : Int) = ((OfNat.ofNat n : Nat) : Int) := rfl
  rw [this]; push_cast; rfl
theorem castAdd2 (n m : Nat) : (no_index (OfNat.ofNat n : Int)) + (m : Int) = ((OfNat.ofNat n + m : Nat) : Int) := by
  have : (OfNat.ofNat n : Int) = ((OfNat.ofNat n : Nat) : Int) := rfl
  rw [this]; push_cast; rfl
theorem castAddN (n m : Nat) : (n : Int) + (m : Int) = ((n + m : Nat) : Int) := rfl
theorem castSub {n m : Nat} (h : OfNat.ofNat n ≤ m) : (m : Int) - (no_index (OfNat.ofNat n : Int)) = ((m - OfNat.ofNat n : Nat) : Int) := by
  have : (OfNat.ofNat n : Int) = ((OfNat.ofNat n : Nat) : Int) := rfl
  rw [this]; omega
theorem castSub2 {n m : Nat} (h : m ≤ OfNat.ofNat n) : (no_index (OfNat.ofNat n : Int)) - (m : Int) = ((OfNat.ofNat n - m : Nat) : Int) := by
  have : (OfNat.ofNat n : Int) = ((OfNat.ofNat n : Nat) : Int) := rfl
  rw [this]; omega
def dQ (ws : List (BitVec 64)) : List D := ws.map fun x => .lit (w64 x)
theorem dQ_len (ws : List (BitVec 64)) : (dQ ws).length = ws.length := by simp [dQ]
theorem dQ_get {ws : List (BitVec 64)} {i : Nat} (h : i < ws.length) : (dQ ws).getD i default = .lit (w64 (ws.getD i 0)) := by
  simp [dQ, List.getD_eq_getElem?_getD, List.getElem?_map, List.getElem?_eq_getElem h]
theorem dQ_app (a b : List (BitVec 64)) : dQ (a ++ b) = dQ a ++ dQ b := by simp [dQ]
def gD (ws : List (BitVec 32)) : List D := ws.map fun x => .lit (w32 x)
theorem gD_get {ws : List (BitVec 32)} {i : Nat} (h : i < ws.length) : (gD ws)[i]? = some (.lit (w32 (ws.getD i 0))) := by
  simp [gD, List.getD_eq_getElem?_getD, List.getElem?_map, List.getElem?_eq_getElem h]
theorem gD_getD {ws : List (BitVec 32)} {i : Nat} (h : i < ws.length) : (gD ws).getD i default = .lit (w32 (ws.getD i 0)) := by
  simp [gD, List.getD_eq_getElem?_getD, List.getElem?_map, List.getElem?_eq_getElem h]
theorem gD_len (ws : List (BitVec 32)) : (gD ws).length = ws.length := by simp [gD]
theorem gD_app (a b : List (BitVec 32)) : gD (a ++ b) = gD a ++ gD b := by simp [gD]
def dW (ws : List (BitVec 32)) : List TV := ws.map fun x => .lit (w32 x)
def splL {α : Type} : List α → Nat → List α → List α
  | cs, _, [] => cs
  | cs, off, x :: xs => splL (cs.set off x) (off + 1) xs
theorem dW_len (ws : List (BitVec 32)) : (dW ws).length = ws.length := by simp [dW]
theorem dW_get {ws : List (BitVec 32)} {i : Nat} (h : i < ws.length) : (dW ws).getD i .unk = .lit (w32 (ws.getD i 0)) := by
  simp [dW, List.getD_eq_getElem?_getD, List.getElem?_map, List.getElem?_eq_getElem h]
theorem dW_get' {ws : List (BitVec 32)} {i : Nat} (h : i < ws.length) : (dW ws)[i]? = some (.lit (w32 (ws.getD i 0))) := by
  simp [dW, List.getD_eq_getElem?_getD, List.getElem?_map, List.getElem?_eq_getElem h]
theorem dW_set (ws : List (BitVec 32)) (i : Nat) (x : BitVec 32) : (dW ws).set i (.lit (w32 x)) = dW (ws.set i x) := by simp [dW, List.map_set]
theorem dW_drop (ws : List (BitVec 32)) (n : Nat) : (dW ws).drop n = dW (ws.drop n) := by simp [dW, List.map_drop]
theorem dW_take (ws : List (BitVec 32)) (n : Nat) : (dW ws).take n = dW (ws.take n) := by simp [dW, List.map_take]
theorem dW_spl : ∀ (xs ws : List (BitVec 32)) (i : Nat), spl (dW ws) i (dW xs) = dW (splL ws i xs)
  | [], ws, i => rfl
  | x :: xs, ws, i => by
    have := dW_spl xs (ws.set i x) (i + 1)
    rw [← dW_set] at this
    exact this
theorem dW_flat (ws : List (BitVec 32)) : (dW ws).all flatT = true := by simp [dW, flatT]
theorem spl_one (cs : List TV) (i : Nat) (x : TV) : spl cs i [x] = cs.set i x := rfl
theorem take_len {α : Type} {l : List α} {n : Nat} (h : l.length = n) : l.take n = l := List.take_of_length_le (by omega)
theorem splL_len {α : Type} : ∀ (xs cs : List α) (o : Nat), (splL cs o xs).length = cs.length
  | [], _, _ => rfl
  | x :: xs, cs, o => by simp only [splL]; rw [splL_len xs]; simp
theorem splL_get {α : Type} : ∀ (xs cs : List α) (o i : Nat), o + xs.length ≤ cs.length → (splL cs o xs)[i]? = if o ≤ i ∧ i < o + xs.length then xs[i - o]? else cs[i]?
  | [], cs, o, i, _ => by simp only [splL]; rw [if_neg (by simp)]
  | x :: xs, cs, o, i, h => by
    simp only [splL]
    simp only [List.length_cons] at h ⊢
    rw [splL_get xs _ _ i (by simp; omega)]
    by_cases h1 : o + 1 ≤ i ∧ i < o + 1 + xs.length
    · rw [if_pos h1, if_pos (by omega)]
      have : i - o = (i - (o + 1)) + 1 := by omega
      rw [this, List.getElem?_cons_succ]
    · rw [if_neg h1]
      by_cases h2 : i = o
      · subst h2; rw [if_pos (by omega), Nat.sub_self, List.getElem?_cons_zero, List.getElem?_set_self (by omega)]
      · rw [if_neg (by omega), List.getElem?_set_ne (by omega)]
theorem splL_all {α : Type} {a b : List α} (h : a.length = b.length) : splL a 0 b = b := by
  apply List.ext_getElem?
  intro i
  rw [splL_get b a 0 i (by omega)]
  split
  · rfl
  · rw [List.getElem?_eq_none (by omega), List.getElem?_eq_none (by omega)]
theorem dW_spl0 {a b : List (BitVec 32)} (h : a.length = b.length) : spl (dW a) 0 (dW b) = dW b := by rw [dW_spl, splL_all h]
theorem push_set (S : TS) (o o' : TObj) : (S.push o).set S.n o' = S.push o' := by
  unfold TS.push TS.set
  simp only [TS.mk.injEq, and_true]
  funext i
  split <;> rfl
theorem resCell {E : Env} {T : Nat → TV} {S : TS} {i ty id : Nat} {e : TypeId} {cs : List TV} {inf : TI} (h1 : T i = .ptr id 0) (h2 : tiOf E.P ty = some inf) (h3 : S.objs id = .cells e cs) (h4 : isAggD inf.desc = true) (h5 : cs.length = inf.size) : resOne E T S (.cell i ty) (.agg cs) := by
  refine ⟨id, 0, e, cs, inf, h1, h2, h3, ?_⟩
  rw [if_pos h4]
  refine ⟨by omega, ?_⟩
  rw [List.drop_zero, take_len h5]
def selP (k n : Nat) (S : TS) (o o' : TObj) : TS := if k = n then S.push o' else (S.set k o').push o
theorem push_setP (S : TS) (o o' : TObj) (k : Nat) : (S.push o).set k o' = selP k S.n S o o' := by
  unfold selP
  split
  · rename_i h; subst h; exact push_set S o o'
  · rename_i h
    unfold TS.push TS.set
    simp only [TS.mk.injEq, and_true]
    funext i
    split
    · rename_i h1; rw [if_neg (by omega)]
    · rfl
theorem selP_eq {k n : Nat} {S : TS} {o o' : TObj} (h : k = n) : selP k n S o o' = S.push o' := if_pos h
theorem selP_ne {k n : Nat} {S : TS} {o o' : TObj} (h : k ≠ n) : selP k n S o o' = (S.set k o').push o := if_neg h
theorem keep_refl (S : TS) : Keep S S = True := eq_true (Keep.refl S)
theorem kp_refl (S : TS) : KpL S S = True := eq_true (KpL.refl S)
theorem kp_push (S : TS) (o : TObj) : KpL S (S.push o) = True := eq_true (KpL.push S o)
def selO (i n : Nat) (a b : TObj) : TObj := if i = n then a else b
theorem push_sel (S : TS) (o : TObj) (i : Nat) : (S.push o).objs i = selO i S.n o (S.objs i) := rfl
theorem set_sel (S : TS) (id : Nat) (o : TObj) (i : Nat) : (S.set id o).objs i = selO i id o (S.objs i) := rfl
theorem sel_eq {i n : Nat} {a b : TObj} (h : i = n) : selO i n a b = a := if_pos h
theorem sel_ne {i n : Nat} {a b : TObj} (h : i ≠ n) : selO i n a b = b := if_neg h
attribute [go_sem low] dW_spl
attribute [go_sem] push_setP selP_eq selP_ne keep_refl kp_refl kp_push Nat.min_self dW_spl0 push_sel set_sel sel_eq sel_ne take_len D.isAgg
theorem gD_of (ws : List (BitVec 32)) : (gD ws).map ofD1 = dW ws := by simp [gD, dW, ofD1]
attribute [go_sem] spl List.getD_cons_zero List.getD_cons_succ
attribute [go_sem] dQ_len dQ_get gD_get gD_getD gD_len gD_of
attribute [go_sem] castMul castMul2 castAdd castAdd2 castAddN castSub castSub2 dW_len dW_get dW_get' dW_set dW_drop dW_take dW_flat spl_one
theorem qsT_0 (E : Env) (o : Oper) (T : Nat → TV) (S : TS) (K : TV → Prop) : qsT E o 0 T S K = quietT E o T S K := rfl
theorem qsT_3 (E : Env) (o : Oper) (T : Nat → TV) (S : TS) (K : TV → Prop) : qsT E o 3 T S K = semiT E o T S K := rfl
theorem isQ_0 : isQ 0 = true := rfl
theorem isQ_1 : isQ 1 = false := rfl
theorem isQ_2 : isQ 2 = false := rfl
theorem isQ_3 : isQ 3 = true := rfl
theorem isQ_4 : isQ 4 = false := rfl
attribute [go_sem] isQ_0 isQ_1 isQ_2 isQ_3 isQ_4
theorem isQ_12 : isQ 12 = false := rfl
theorem isQ_36 : isQ 36 = false := rfl
theorem sideD_1 (E : Env) (ops : Array Oper) (T : Nat → TV) (S S' : TS) : sideD E ops 1 T S S' = KpL S S' := rfl
theorem sideD_2 (E : Env) (ops : Array Oper) (T : Nat → TV) (S S' : TS) : sideD E ops 2 T S S' = True := rfl
theorem sideD_4 (E : Env) (ops : Array Oper) (T : Nat → TV) (S S' : TS) : sideD E ops 4 T S S' = True := rfl
theorem sideD_12 (E : Env) (ops : Array Oper) (T : Nat → TV) (S S' : TS) : sideD E ops 12 T S S' = (keepAt E ops 0 T S S' ∧ convL E T ops.toList) := rfl
theorem sideD_36 (E : Env) (ops : Array Oper) (T : Nat → TV) (S S' : TS) : sideD E ops 36 T S S' = (keepAt E ops 6 T S S' ∧ convL E T ops.toList) := rfl
attribute [go_sem] isQ_12 isQ_36
attribute [go_sem ↓] sideD_1 sideD_2 sideD_4 sideD_12 sideD_36 keepAt convL
attribute [go_sem ↓] qsT_0 qsT_3 semiT
attribute [go_sem ↓] evL_nil evL_cons evK_app evD_nil evD_cons evKD_app evKQ_app quK_app opT quietT loadT fieldT
attribute [go_sem ↓] brT_tt brT_ff brT_tf brT_ft brT_un brD_un brD_tt brD_ff brD_tf brD_ft
theorem srcD_sl (S : TS) (ag : Bool) (size : Nat) (g : Tag) (s : Nat) (ys : List D) : srcD S ag size (.sl g s ys) = if s = size then some ys else if ys.isEmpty then some [] else none := rfl
theorem srcD_str (S : TS) (ag : Bool) (size : Nat) (b : ByteArray) : srcD S ag size (.lit (.string b)) = if size = 1 ∧ b.size ≤ LIM then some (bytesD b) else none := rfl
theorem srcD_vs (S : TS) (ag : Bool) (size id off s len : Nat) : srcD S ag size (.vs id off s len) = match S.objs id with
    | .cells _ cs => if s = size ∧ off + len * s ≤ cs.length ∧ (ag = false → s = 1) ∧ (cs.all flatT = true) ∧ len ≤ LIM then chunks ag s len (cs.drop off) else none
    | _ => none := rfl
theorem chunks_0 (ag : Bool) (s : Nat) (cs : List TV) : chunks ag s 0 cs = some [] := rfl
theorem chunks_t (s n : Nat) (x : TV) (xs : List TV) : chunks true s (n + 1) (x :: xs) = match (toDs ((x :: xs).take s)).map D.agg, chunks true s n ((x :: xs).drop s) with
    | some d, some ds => some (d :: ds)
    | _, _ => none := by rw [chunks]; rfl
theorem chunks_f (n : Nat) (x : TV) (xs : List TV) : chunks false 1 (n + 1) (x :: xs) = match toD1 x, chunks false 1 n xs with
    | some d, some ds => some (d :: ds)
    | _, _ => none := by rw [chunks]; rfl
attribute [go_sem] evO oc_int oc_bool oc_str oc_sl oc_ptr oc_map oc_nf oc_fl oc_nif putT thenT blockT upd argsT srcD_sl srcD_str srcD_vs isAggD notInt rowTag kill intOfT isNilT
  partT partE cellT cellsT flatT ofD ofD1 toD1 toDs toD chunks_0 chunks_t chunks_f fillT
  wrapU8 wrapU16 wrapU32 wrapU64
  add8 sub8 mul8 and8 or8 xor8 shl8 shr8 not8 add16 sub16 mul16 and16 or16 xor16 shl16 shr16 not16
  add32 sub32 mul32 and32 or32 xor32 shl32 shr32 not32 add64 sub64 mul64 and64 or64 xor64 shl64 shr64 not64
  decide_true decide_false rem64 un_notB Bool.not_true Bool.not_false
  addI subI mulI remI quoI eqlI neqI lssI leqI gtrI geqI dB_len dB_get dB_drop dB_take
  List.map_cons List.map_nil List.all_cons List.all_nil Bool.and_true Bool.true_and List.head?_cons Option.bind_some Option.map_some Option.map_none Option.getD_none List.size_toArray
  List.set_cons_zero List.set_cons_succ List.take_succ_cons List.drop_succ_cons List.drop_zero List.take_zero Nat.mul_one Nat.one_mul Nat.zero_add List.getElem?_toArray or_true true_or forall_const not_true_eq_false Bool.false_eq_true false_implies imp_self ne_eq
  tvSlice_sl tvSl_lo tvSl_hi tvSl_lh tvSl_no
  tmodN
  LIM TS.set_n TS.push_n Int.toNat_natCast List.nil_append List.append_nil List.length_set splL_len List.length_append List.length_cons List.length_nil true_and and_true Tag.own.injEq TV.lit.injEq
  List.getElem?_cons_zero List.getElem?_cons_succ Option.getD_some BitVec.ofInt_natCast BitVec.ofNat_toNat BitVec.setWidth_eq
end Go.Proofs.YtlljknmojafkoaaGreatDoor.TL
namespace Go.Proofs.YtlljknmojafkoaaGreatDoor.TL
open Go.RowKit
theorem TCall.forget {E : Env} {f : FuncId} {args : List TV} {S : TS} {R R' : TV → TS → Prop} (h : TCall E f args S R)
    (hr : ∀ t S1, wfS S → R t S1 → ∃ L t' S2, Fgt S S1 L S2 ∧ Ren S.n L t t' ∧ R' t' S2) : TCall E f args S R' := by
  intro w0 c w vs hk hv
  refine (h w0 c w vs hk hv).mono ?_
  rintro v w' ⟨t, c1, S1, h1, h2, h3, h4⟩
  obtain ⟨L, t', S2, hf, hrn, hR⟩ := hr t S1 hk.rel.wf h4
  obtain ⟨g1, g2⟩ := hk.forget h1 h2 hf
  exact ⟨t', _, S2, g1, g2, hrn.ok (newCx_ok _ _ _) h3, hR⟩
theorem Fgt.row {S S1 : TS} (hw : wfS S) (h : Keep S S1) {k : Nat} (hk : S.n ≤ k) (ho : S1.objs k = .lin) : Fgt S S1 [k] (S.push .lin) := by
  refine ⟨by simp [TS.push], (by simp), fun k' hk' => ?_, fun id hi => .inl ⟨?_, h.2 id hi⟩, fun i k' hh => ?_, fun id hi => ?_⟩
  · simp at hk'; omega
  · simp only [TS.push]; rw [if_neg (by omega)]
  · cases i with
    | zero => simp at hh; subst hh; rw [ho, Nat.add_zero, push_self]; exact .lin
    | succ i => simp at hh
  · simp only [TS.push] at hi ⊢
    rw [if_neg (by omega)]
    exact hw id (by omega)
theorem TCall.pure {E : Env} {f : FuncId} {args : List TV} {S : TS} {r : TV} (h : TCall E f args S fun t S' => t = r ∧ Keep S S') (hr : Ren S.n [] r r) : TCall E f args S fun t S' => t = r ∧ S' = S :=
  h.forget fun t S1 hw ⟨h1, h2⟩ => ⟨[], r, S, .none hw h2, by rw [h1]; exact hr, rfl, rfl⟩
theorem RdD.nil_any {A : Nat → Nat → Prop} {w : World} {s : Nat} (s' : Nat) {v : Value} (h : RdD A w (.sl s []) (.val v)) : RdD A w (.sl s' []) (.val v) := by
  cases h with
  | nil _ a cap => exact .nil _ a cap
  | sl _ _ b o n cap hn hc hm hh => cases hn; exact .nil _ _ _
/-- What is full may be taken for a row of its own; what is empty, for one of any element. -/
theorem TWp.asRow (i : Nat) {s : Nat} (s' : Nat) {xs : List D} {E : Env} {N : Nat} {code : Code} {Q : Exit → (Nat → TV) → TS → Prop} {T : Nat → TV} {S : TS} (h : T i = .sl .full s xs) (hs : xs = [] ∨ s' = s) (hw : TWp E N code Q (upd T i (.sl (.own S.n) s' xs)) (S.push .lin)) : TWp E N code Q T S := by
  intro hi w0 c w a hk ht hsz
  obtain ⟨c', h1, h2, h3⟩ := hk.rel.virtual
  have hk' : Ok E w0 c' (S.push .lin) w := hk.step h1 h2
  have h9 : S.n < c'.n := by rw [h1.cn, TS.push_n]; omega
  refine wp_mono (hw hi w0 c' w a hk' (fun j v hv => ?_) hsz) fun e a' w' hq => hq.trans h2
  have hj := (ht j v hv).step h2
  unfold upd
  split
  · rename_i hji
    subst hji
    rw [h] at hj
    cases hj with
    | sl _ _ _ _ k1 k2 =>
      refine .sl _ _ _ _ ?_ ?_
      · rcases hs with rfl | rfl
        · exact k1.nil_any s'
        · exact k1
      · cases v with
        | slice a n cap => exact ⟨h9, .inl k2⟩
        | _ => exact k2.elim
  · exact hj
theorem ren_dW (n : Nat) (L : List Nat) (ws : List (BitVec 32)) : Ren n L (.agg (dW ws)) (.agg (dW ws)) := by
  refine .agg _ _ rfl fun j t t' h1 h2 => ?_
  rw [h1] at h2; injection h2 with h2; subst h2
  unfold dW at h1
  rw [List.getElem?_map] at h1
  obtain ⟨x, _, rfl⟩ := Option.map_eq_some_iff.1 h1
  exact .lit _
inductive RenL (n : Nat) (L : List Nat) : List TV → List TV → Prop
  | nil : RenL n L [] []
  | cons {x y : TV} {a b : List TV} (h : Ren n L x y) (h2 : RenL n L a b) : RenL n L (x :: a) (y :: b)
theorem RenL.ok {n : Nat} {L : List Nat} {a b : List TV} (h : RenL n L a b) : b.length = a.length ∧ ∀ (j : Nat) t t', a[j]? = some t → b[j]? = some t' → Ren n L t t' := by
  induction h with
  | nil => exact ⟨rfl, fun j t t' h => by simp at h⟩
  | cons h1 _ ih =>
    refine ⟨by simp [ih.1], fun j t t' k1 k2 => ?_⟩
    cases j with
    | zero => simp at k1 k2; subst k1 k2; exact h1
    | succ j => exact ih.2 j t t' (by simpa using k1) (by simpa using k2)
theorem Ren.tupF {n : Nat} {L : List Nat} {a b : List TV} (h : RenL n L a b) : Ren n L (.tup a) (.tup b) := .tup _ _ h.ok.1 h.ok.2
theorem Ren.aggF {n : Nat} {L : List Nat} {a b : List TV} (h : RenL n L a b) : Ren n L (.agg a) (.agg b) := .agg _ _ h.ok.1 h.ok.2
theorem TCall.row {E : Env} {f : FuncId} {args : List TV} {S : TS} {s : Nat} {xs : List D} (h : TCall E f args S fun t S' => ∃ k, t = .sl (.own k) s xs ∧ S.n ≤ k ∧ S'.objs k = .lin ∧ Keep S S') : TCall E f args S fun t S' => t = .sl (.own S.n) s xs ∧ S' = S.push .lin :=
  h.forget fun t S1 hw ⟨k, h1, h2, h3, h4⟩ => ⟨[k], _, _, .row hw h4 h2 h3, by rw [h1]; exact .sl 0 k s xs rfl, rfl, rfl⟩
end Go.Proofs.YtlljknmojafkoaaGreatDoor.TL
namespace Go.Proofs.YtlljknmojafkoaaGreatDoor.TL
open Go.RowKit
def condT : TV → (Bool → Prop) → Prop
  | .lit (.bool b), K => K b
  | _, _ => False
theorem condT_lit (b : Bool) (K : Bool → Prop) : condT (.lit (.bool b)) K = K b := rfl
attribute [go_sem] condT_lit
theorem TWp.cond_k {E : Env} {N : Nat} {Q : Exit → (Nat → TV) → TS → Prop} {T : Nat → TV} {S : TS} {o : Operand} {x y : Code}
    (h : ∀ K : Bool → Prop, (∀ b, (b = true → TWp E N x Q T S) → (b = false → TWp E N y Q T S) → K b) → condT (evO E T o) K) : TWp E N (.cond o x y) Q T S := by
  have h1 := h (fun b => (b = true → TWp E N x Q T S) ∧ (b = false → TWp E N y Q T S)) fun b h1 h2 => ⟨h1, h2⟩
  unfold condT at h1
  split at h1
  · rename_i b K hb
    exact .cond hb h1.1 h1.2
  · exact h1.elim
theorem push_lt {S : TS} {o : TObj} {i : Nat} (h : i < S.n) : (S.push o).objs i = S.objs i := by rw [TS.push_objs, if_neg (by omega)]
theorem setpush_lt {S : TS} {k i : Nat} {o o' : TObj} (h : i < S.n) (hk : i ≠ k) : ((S.set k o).push o').objs i = S.objs i := by
  rw [push_lt (by exact h), TS.set_objs, if_neg hk]
/-! ### steps that only the proof takes -/
theorem TWp.ghost {E : Env} {N : Nat} {code : Code} {Q : Exit → (Nat → TV) → TS → Prop} {T T' : Nat → TV} {S S' : TS}
    (h : ∀ w0 c w, Ok E w0 c S w → ∃ c', Rel w0 c' S' w ∧ Mono c w c' w ∧ ∀ i v, RdT c w (T i) v → RdT c' w (T' i) v) (hw : TWp E N code Q T' S') : TWp E N code Q T S := by
  intro hi w0 c w a hk ht hsz
  obtain ⟨c', h1, h2, h3⟩ := h w0 c w hk
  exact wp_mono (hw hi w0 c' w a (hk.step h1 h2) (fun j v hv => h3 j v (ht j v hv)) hsz) fun e a' w' hq => hq.trans h2
/-- What is empty and has no room may be taken for a row that may be written. -/
theorem TWp.asBuf (i e : Nat) {s : Nat} (s' : Nat) {E : Env} {N : Nat} {code : Code} {Q : Exit → (Nat → TV) → TS → Prop} {T : Nat → TV} {S : TS} (h : T i = .sl .full s [])
    (hw : TWp E N code Q (upd T i (.vs S.n 0 s' 0)) (S.push (.cells e []))) : TWp E N code Q T S := by
  refine .ghost (fun w0 c w hk => ?_) hw
  obtain ⟨c', h1, h2, h3, h4⟩ := hk.rel.virtual' (.cells e []) (.inr ⟨e, rfl⟩)
  refine ⟨c', h1, h2, fun j v hv => ?_⟩
  unfold upd
  split
  · rename_i hji
    subst hji
    rw [h] at hv
    cases hv with
    | sl _ _ _ _ k1 k2 =>
      cases k1 with
      | nil _ a cap =>
        have : cap = 0 := k2
        subst this
        exact .vsN _ _ _ _ (by omega)
      | sl _ _ b o n cap hn hc hm hh =>
        have e1 : n = 0 := by simpa using hn.symm
        have e2 : cap = n := k2
        subst e2; subst e1
        exact .vsN _ _ _ _ (by omega)
  · exact hv.step h2
theorem TWp.trunc (id n : Nat) {e : Nat} {cs : List TV} {E : Env} {N : Nat} {code : Code} {Q : Exit → (Nat → TV) → TS → Prop} {T : Nat → TV} {S : TS} (hobj : S.objs id = .cells e cs)
    (hw : TWp E N code Q T (S.set id (.cells e (cs.take n)))) : TWp E N code Q T S :=
  .ghost (fun w0 c w hk => ⟨c, hk.rel.trunc hobj n, Mono.refl c w, fun _ _ h => h⟩) hw
/-- A row that may be written is fixed: it is written no more. -/
theorem TWp.freeze (i : Nat) {id off s len : Nat} {ag : Bool} {ds : List D} {E : Env} {N : Nat} {code : Code} {Q : Exit → (Nat → TV) → TS → Prop} {T : Nat → TV} {S : TS} (h : T i = .vs id off s len)
    (hd : srcD S ag s (.vs id off s len) = some ds) (hw : TWp E N code Q (upd T i (.sl .none s ds)) (S.set id .gone)) : TWp E N code Q T S := by
  intro hi w0 c w a hk ht hsz
  have hlive : (S.objs id).live = true := by
    simp only [srcD] at hd
    split at hd
    · rename_i e cs ho; rw [ho]; rfl
    · cases hd
  rcases Nat.lt_or_ge i a.tmps.size with hia | hia
  · have hv : a.tmps[i]? = some a.tmps[i] := Array.getElem?_eq_getElem hia
    have hr := ht i _ hv
    rw [h] at hr
    obtain ⟨h1, h2, h3⟩ := vs_cells hk hr hd
    rcases h3 with ⟨ad, h3, h4⟩ | ⟨b, e, cap, news, g1, g2, g3, g4, g5, g6⟩
    · subst h4
      refine hw hi w0 c w a ⟨hk.rel.drop id, hk.glob⟩ (fun j v hj => ?_) hsz
      unfold upd
      split
      · rename_i hji
        subst hji
        rw [hv] at hj; injection hj with hj; subst hj
        rw [h3]
        exact .sl _ _ _ _ (.nil _ _ _) trivial
      · exact ht j v hj
    · let c' : Cx := { A := fun b' j => c.A b' j ∨ (b' = b ∧ ∃ q, q < news.length ∧ j = e.1 + off + q), γ := c.γ, n := c.n }
      have m : Mono c w c' w := ⟨fun _ _ h => .inl h, fun _ _ _ => rfl, fun _ _ h => h, Nat.le_refl _⟩
      have hid := hk.rel.dom _ _ g1
      have hdr := hk.rel.drop id
      have r : Rel w0 c' (S.set id .gone) w := by
        refine ⟨hdr.below, hdr.dom, fun k hk' => ?_, hdr.inj, ?_, hdr.wf, hdr.cn⟩
        · refine (hdr.obj k hk').keep m rfl (fun hl b' e' hb' => ⟨rfl, fun j hj => ?_⟩)
          rcases hj with hj | ⟨rfl, _⟩
          · exact hj
          · rw [TS.set_objs] at hl
            split at hl
            · cases hl
            · rename_i hne
              exact absurd (hk.rel.inj k id b' e' e hk' hid hl hlive hb' g1) hne
        · rintro b' j (hj | ⟨rfl, q, hq, rfl⟩)
          · exact hdr.cell b' j hj
          · exact ⟨_, g6 q _ (List.getElem?_eq_getElem hq)⟩
      refine wp_mono (hw hi w0 c' w a (hk.step r m) (fun j v hj => ?_) hsz) fun e a' w' hq => hq.trans m
      unfold upd
      split
      · rename_i hji
        subst hji
        rw [hv] at hj; injection hj with hj; subst hj
        rw [g2]
        refine .sl _ _ _ _ ((g5.step m).sl h1 g3 h2 fun q x hx => ⟨g6 q x hx, .inr ⟨rfl, q, (List.getElem?_eq_some_iff.1 hx).1, rfl⟩⟩) trivial
      · exact (ht j v hj).step m
  · refine hw hi w0 c w a ⟨hk.rel.drop id, hk.glob⟩ (fun j v hj => ?_) hsz
    unfold upd
    split
    · rename_i hji
      subst hji
      rw [Array.getElem?_eq_none hia] at hj; cases hj
    · exact ht j v hj
/-! ### rows of scalars that may be written -/
def dI (xs : List Int) : List D := xs.map fun n => .lit (.int .i64 n)
def dS (xs : List ByteArray) : List D := xs.map fun v => .lit (.string v)
section
variable {α : Type} (f : α → Value)
def dF (xs : List α) : List D := xs.map fun x => .lit (f x)
theorem cF (xs : List α) : cellsD (dF f xs) = xs.map fun x => TV.lit (f x) := by
  induction xs with
  | nil => rfl
  | cons x xs ih => rw [dF, List.map_cons, cellsD_cons]; rw [dF] at ih; rw [ih]; rfl
theorem cF_len (xs : List α) : (cellsD (dF f xs)).length = xs.length := by simp [cF]
theorem cF_get {xs : List α} {i : Nat} (d : α) (h : i < xs.length) : (cellsD (dF f xs)).getD i .unk = .lit (f (xs.getD i d)) := by
  simp [cF, List.getD_eq_getElem?_getD, List.getElem?_map, List.getElem?_eq_getElem h]
theorem cF_set (xs : List α) (i : Nat) (x : α) : (cellsD (dF f xs)).set i (.lit (f x)) = cellsD (dF f (xs.set i x)) := by
  simp only [cF, List.map_set]
theorem cF_app (xs ys : List α) : cellsD (dF f xs) ++ cellsD (dF f ys) = cellsD (dF f (xs ++ ys)) := by simp [cF]
theorem cF_drop (xs : List α) (n : Nat) : (cellsD (dF f xs)).drop n = cellsD (dF f (xs.drop n)) := by simp [cF, List.map_drop]
theorem cF_take (xs : List α) (n : Nat) : (cellsD (dF f xs)).take n = cellsD (dF f (xs.take n)) := by simp [cF, List.map_take]
theorem cF_chunks : ∀ (xs : List α) (n : Nat), n ≤ xs.length → chunks false 1 n (cellsD (dF f xs)) = some (dF f (xs.take n))
  | xs, 0, _ => by simp [chunks, dF]
  | x :: xs, n + 1, h => by
    have h1 : cellsD (dF f (x :: xs)) = TV.lit (f x) :: cellsD (dF f xs) := by simp [cF]
    rw [h1]
    simp only [chunks, List.head?_cons, Option.bind_some, toD1, List.drop_succ_cons, List.drop_zero, Bool.false_eq_true, if_false]
    rw [cF_chunks xs n (by simpa using h)]
    simp [dF]
  | [], n + 1, h => by simp at h
theorem cF_flat (hf : ∀ x, flatT (.lit (f x)) = true) (xs : List α) : (cellsD (dF f xs)).all flatT = true := by
  rw [cF, List.all_eq_true]
  intro t ht
  obtain ⟨x, _, rfl⟩ := List.mem_map.1 ht
  exact hf x
end
theorem cB_len (xs : List (BitVec 8)) : (cellsD (dB xs)).length = xs.length := cF_len (fun x : BitVec 8 => w8 x) xs
theorem cB_get {xs : List (BitVec 8)} {i : Nat} (h : i < xs.length) : (cellsD (dB xs)).getD i .unk = .lit ((fun x : BitVec 8 => w8 x) (xs.getD i 0)) := cF_get (fun x : BitVec 8 => w8 x) _ h
theorem cB_set (xs : List (BitVec 8)) (i : Nat) (x : BitVec 8) : (cellsD (dB xs)).set i (.lit ((fun x : BitVec 8 => w8 x) x)) = cellsD (dB (xs.set i x)) := cF_set (fun x : BitVec 8 => w8 x) xs i x
theorem cB_app (xs ys : List (BitVec 8)) : cellsD (dB xs) ++ cellsD (dB ys) = cellsD (dB (xs ++ ys)) := cF_app (fun x : BitVec 8 => w8 x) xs ys
theorem cB_drop (xs : List (BitVec 8)) (n : Nat) : (cellsD (dB xs)).drop n = cellsD (dB (xs.drop n)) := cF_drop (fun x : BitVec 8 => w8 x) xs n
theorem cB_take (xs : List (BitVec 8)) (n : Nat) : (cellsD (dB xs)).take n = cellsD (dB (xs.take n)) := cF_take (fun x : BitVec 8 => w8 x) xs n
theorem cB_chunks {xs : List (BitVec 8)} {n : Nat} (h : n ≤ xs.length) : chunks false 1 n (cellsD (dB xs)) = some (dB (xs.take n)) := cF_chunks (fun x : BitVec 8 => w8 x) xs n h
theorem cB_flat (xs : List (BitVec 8)) : (cellsD (dB xs)).all flatT = true := cF_flat (fun x : BitVec 8 => w8 x) (fun _ => rfl) xs
attribute [go_sem] cB_len cB_get cB_set cB_app cB_drop cB_take cB_flat
attribute [go_sem high] cB_chunks
theorem cG_len (xs : List (BitVec 32)) : (cellsD (gD xs)).length = xs.length := cF_len (fun x : BitVec 32 => w32 x) xs
theorem cG_get {xs : List (BitVec 32)} {i : Nat} (h : i < xs.length) : (cellsD (gD xs)).getD i .unk = .lit ((fun x : BitVec 32 => w32 x) (xs.getD i 0)) := cF_get (fun x : BitVec 32 => w32 x) _ h
theorem cG_set (xs : List (BitVec 32)) (i : Nat) (x : BitVec 32) : (cellsD (gD xs)).set i (.lit ((fun x : BitVec 32 => w32 x) x)) = cellsD (gD (xs.set i x)) := cF_set (fun x : BitVec 32 => w32 x) xs i x
theorem cG_app (xs ys : List (BitVec 32)) : cellsD (gD xs) ++ cellsD (gD ys) = cellsD (gD (xs ++ ys)) := cF_app (fun x : BitVec 32 => w32 x) xs ys
theorem cG_drop (xs : List (BitVec 32)) (n : Nat) : (cellsD (gD xs)).drop n = cellsD (gD (xs.drop n)) := cF_drop (fun x : BitVec 32 => w32 x) xs n
theorem cG_take (xs : List (BitVec 32)) (n : Nat) : (cellsD (gD xs)).take n = cellsD (gD (xs.take n)) := cF_take (fun x : BitVec 32 => w32 x) xs n
theorem cG_chunks {xs : List (BitVec 32)} {n : Nat} (h : n ≤ xs.length) : chunks false 1 n (cellsD (gD xs)) = some (gD (xs.take n)) := cF_chunks (fun x : BitVec 32 => w32 x) xs n h
theorem cG_flat (xs : List (BitVec 32)) : (cellsD (gD xs)).all flatT = true := cF_flat (fun x : BitVec 32 => w32 x) (fun _ => rfl) xs
attribute [go_sem] cG_len cG_get cG_set cG_app cG_drop cG_take cG_flat
attribute [go_sem high] cG_chunks
theorem cQ_len (xs : List (BitVec 64)) : (cellsD (dQ xs)).length = xs.length := cF_len (fun x : BitVec 64 => w64 x) xs
theorem cQ_get {xs : List (BitVec 64)} {i : Nat} (h : i < xs.length) : (cellsD (dQ xs)).getD i .unk = .lit ((fun x : BitVec 64 => w64 x) (xs.getD i 0)) := cF_get (fun x : BitVec 64 => w64 x) _ h
theorem cQ_set (xs : List (BitVec 64)) (i : Nat) (x : BitVec 64) : (cellsD (dQ xs)).set i (.lit ((fun x : BitVec 64 => w64 x) x)) = cellsD (dQ (xs.set i x)) := cF_set (fun x : BitVec 64 => w64 x) xs i x
theorem cQ_app (xs ys : List (BitVec 64)) : cellsD (dQ xs) ++ cellsD (dQ ys) = cellsD (dQ (xs ++ ys)) := cF_app (fun x : BitVec 64 => w64 x) xs ys
theorem cQ_drop (xs : List (BitVec 64)) (n : Nat) : (cellsD (dQ xs)).drop n = cellsD (dQ (xs.drop n)) := cF_drop (fun x : BitVec 64 => w64 x) xs n
theorem cQ_take (xs : List (BitVec 64)) (n : Nat) : (cellsD (dQ xs)).take n = cellsD (dQ (xs.take n)) := cF_take (fun x : BitVec 64 => w64 x) xs n
theorem cQ_chunks {xs : List (BitVec 64)} {n : Nat} (h : n ≤ xs.length) : chunks false 1 n (cellsD (dQ xs)) = some (dQ (xs.take n)) := cF_chunks (fun x : BitVec 64 => w64 x) xs n h
theorem cQ_flat (xs : List (BitVec 64)) : (cellsD (dQ xs)).all flatT = true := cF_flat (fun x : BitVec 64 => w64 x) (fun _ => rfl) xs
attribute [go_sem] cQ_len cQ_get cQ_set cQ_app cQ_drop cQ_take cQ_flat
attribute [go_sem high] cQ_chunks
theorem cI_len (xs : List (Int)) : (cellsD (dI xs)).length = xs.length := cF_len (fun x : Int => Value.int .i64 x) xs
theorem cI_get {xs : List (Int)} {i : Nat} (h : i < xs.length) : (cellsD (dI xs)).getD i .unk = .lit ((fun x : Int => Value.int .i64 x) (xs.getD i 0)) := cF_get (fun x : Int => Value.int .i64 x) _ h
theorem cI_set (xs : List (Int)) (i : Nat) (x : Int) : (cellsD (dI xs)).set i (.lit ((fun x : Int => Value.int .i64 x) x)) = cellsD (dI (xs.set i x)) := cF_set (fun x : Int => Value.int .i64 x) xs i x
theorem cI_app (xs ys : List (Int)) : cellsD (dI xs) ++ cellsD (dI ys) = cellsD (dI (xs ++ ys)) := cF_app (fun x : Int => Value.int .i64 x) xs ys
theorem cI_drop (xs : List (Int)) (n : Nat) : (cellsD (dI xs)).drop n = cellsD (dI (xs.drop n)) := cF_drop (fun x : Int => Value.int .i64 x) xs n
theorem cI_take (xs : List (Int)) (n : Nat) : (cellsD (dI xs)).take n = cellsD (dI (xs.take n)) := cF_take (fun x : Int => Value.int .i64 x) xs n
theorem cI_chunks {xs : List (Int)} {n : Nat} (h : n ≤ xs.length) : chunks false 1 n (cellsD (dI xs)) = some (dI (xs.take n)) := cF_chunks (fun x : Int => Value.int .i64 x) xs n h
theorem cI_flat (xs : List (Int)) : (cellsD (dI xs)).all flatT = true := cF_flat (fun x : Int => Value.int .i64 x) (fun _ => rfl) xs
attribute [go_sem] cI_len cI_get cI_set cI_app cI_drop cI_take cI_flat
attribute [go_sem high] cI_chunks
theorem cS_len (xs : List (ByteArray)) : (cellsD (dS xs)).length = xs.length := cF_len (fun x : ByteArray => Value.string x) xs
theorem cS_get {xs : List (ByteArray)} {i : Nat} (h : i < xs.length) : (cellsD (dS xs)).getD i .unk = .lit ((fun x : ByteArray => Value.string x) (xs.getD i ByteArray.empty)) := cF_get (fun x : ByteArray => Value.string x) _ h
theorem cS_set (xs : List (ByteArray)) (i : Nat) (x : ByteArray) : (cellsD (dS xs)).set i (.lit ((fun x : ByteArray => Value.string x) x)) = cellsD (dS (xs.set i x)) := cF_set (fun x : ByteArray => Value.string x) xs i x
theorem cS_app (xs ys : List (ByteArray)) : cellsD (dS xs) ++ cellsD (dS ys) = cellsD (dS (xs ++ ys)) := cF_app (fun x : ByteArray => Value.string x) xs ys
theorem cS_drop (xs : List (ByteArray)) (n : Nat) : (cellsD (dS xs)).drop n = cellsD (dS (xs.drop n)) := cF_drop (fun x : ByteArray => Value.string x) xs n
theorem cS_take (xs : List (ByteArray)) (n : Nat) : (cellsD (dS xs)).take n = cellsD (dS (xs.take n)) := cF_take (fun x : ByteArray => Value.string x) xs n
theorem cS_chunks {xs : List (ByteArray)} {n : Nat} (h : n ≤ xs.length) : chunks false 1 n (cellsD (dS xs)) = some (dS (xs.take n)) := cF_chunks (fun x : ByteArray => Value.string x) xs n h
theorem cS_flat (xs : List (ByteArray)) : (cellsD (dS xs)).all flatT = true := cF_flat (fun x : ByteArray => Value.string x) (fun _ => rfl) xs
attribute [go_sem] cS_len cS_get cS_set cS_app cS_drop cS_take cS_flat
attribute [go_sem high] cS_chunks
theorem cB_rep (n : Nat) : List.replicate n (TV.lit (.int .u8 0)) = cellsD (dB (List.replicate n 0)) := by
  show _ = cellsD (dF (fun x : BitVec 8 => w8 x) _)
  rw [cF]; simp only [List.map_replicate]; rfl
theorem cI_rep (n : Nat) : List.replicate n (TV.lit (.int .i64 0)) = cellsD (dI (List.replicate n 0)) := by
  show _ = cellsD (dF (fun x : Int => Value.int .i64 x) _)
  rw [cF]; simp only [List.map_replicate]
theorem cS_rep (n : Nat) : List.replicate n (TV.lit (.string ByteArray.empty)) = cellsD (dS (List.replicate n ByteArray.empty)) := by
  show _ = cellsD (dF (fun x : ByteArray => Value.string x) _)
  rw [cF]; simp only [List.map_replicate]
theorem oc1_int (k : IntKind) (n : Int) : ofConst1 (.int k n) = .lit (.int k n) := rfl
theorem oc1_str (b : ByteArray) : ofConst1 (.string b) = .lit (.string b) := rfl
theorem oc1_bool (b : Bool) : ofConst1 (.bool b) = .lit (.bool b) := rfl
attribute [go_sem] cB_rep cI_rep cS_rep oc1_int oc1_str oc1_bool List.drop_zero cellsD_nil List.nil_append List.append_nil
theorem dI_len (xs : List Int) : (dI xs).length = xs.length := by simp [dI]
theorem dI_app (a b : List Int) : dI (a ++ b) = dI a ++ dI b := by simp [dI]
theorem dI_get {xs : List Int} {i : Nat} (h : i < xs.length) : (dI xs).getD i default = .lit (.int .i64 (xs.getD i 0)) := by
  simp [dI, List.getD_eq_getElem?_getD, List.getElem?_map, List.getElem?_eq_getElem h]
theorem dI_drop (xs : List Int) (n : Nat) : (dI xs).drop n = dI (xs.drop n) := by simp [dI, List.map_drop]
theorem dI_take (xs : List Int) (n : Nat) : (dI xs).take n = dI (xs.take n) := by simp [dI, List.map_take]
theorem dS_len (xs : List ByteArray) : (dS xs).length = xs.length := by simp [dS]
theorem dS_get {xs : List ByteArray} {i : Nat} (h : i < xs.length) : (dS xs).getD i default = .lit (.string (xs.getD i ByteArray.empty)) := by
  simp [dS, List.getD_eq_getElem?_getD, List.getElem?_map, List.getElem?_eq_getElem h]
theorem dS_drop (xs : List ByteArray) (n : Nat) : (dS xs).drop n = dS (xs.drop n) := by simp [dS, List.map_drop]
theorem dS_take (xs : List ByteArray) (n : Nat) : (dS xs).take n = dS (xs.take n) := by simp [dS, List.map_take]
attribute [go_sem] dI_len dI_get dI_drop dI_take dS_len dS_get dS_drop dS_take
/-! ### results that may be written -/
theorem Ok.freezeOwn {E : Env} {w0 : World} {c : Cx} {S : TS} {w : World} (hk : Ok E w0 c S w) {ag : Bool} {id off s len : Nat} {v : Value} {ds : List D} (hr : RdT c w (.vs id off s len) v) (hd : srcD S ag s (.vs id off s len) = some ds)
    (hend : ∀ e cs, S.objs id = .cells e cs → off + len * s = cs.length) : ∃ c', Rel w0 c' ((S.set id .gone).push .lin) w ∧ Mono c w c' w ∧ RdT c' w (.sl (.own S.n) s ds) v := by
  have hobj : ∃ e cs, S.objs id = .cells e cs := by
    simp only [srcD] at hd
    split at hd
    · rename_i e cs ho; exact ⟨e, cs, ho⟩
    · cases hd
  obtain ⟨e1, cs, hobj⟩ := hobj
  have hlive : (S.objs id).live = true := by rw [hobj]; rfl
  have hend := hend e1 cs hobj
  have hdr := hk.rel.drop id
  obtain ⟨h1, h2, h3⟩ := vs_cells hk hr hd
  rcases h3 with ⟨ad, h3, h4⟩ | ⟨b, e, cap, news, g1, g2, g3, g4, g5, g6⟩
  · subst h4
    obtain ⟨c', r1, r2, r3, r4⟩ := hdr.virtual' .lin (.inl rfl)
    refine ⟨c', r1, r2, ?_⟩
    subst h3
    exact .sl _ _ _ _ (.nil _ _ _) ⟨by rw [r4]; show S.n < S.n + 1; omega, .inl rfl⟩
  · have hob := hk.rel.obj id (hk.rel.dom _ _ g1)
    rw [hobj] at hob
    obtain ⟨q2, ⟨arr, fr, q3, qz, ql⟩, qf, q4, q5⟩ := hob.2 b e g1
    have hnl := g5.len
    let c' : Cx := { A := fun b' j => c.A b' j ∨ (b' = b ∧ ∃ q, q < news.length ∧ j = e.1 + off + q), γ := fun i => if i = S.n then some (b, (e.1 + off + len * s, e.2)) else c.γ i, n := S.n + 1 }
    have hid := hk.rel.dom _ _ g1
    have m : Mono c w c' w := ⟨fun _ _ h => .inl h, fun _ _ _ => rfl, fun i x hx => by
      have := hk.rel.dom i x hx
      show (if i = S.n then _ else _) = _
      rw [if_neg (by omega)]; exact hx, by have := hk.rel.cn; show c.n ≤ S.n + 1; omega⟩
    have hγn : c'.γ S.n = some (b, (e.1 + off + len * s, e.2)) := if_pos rfl
    have hoth : ∀ k, k < S.n → k ≠ id → (S.objs k).live = true → ∀ e', c.γ k = some (b, e') → False := fun k hk' hne hl e' hγ => hne (hk.rel.inj k id b e' e hk' hid hl hlive hγ g1)
    have r : Rel w0 c' ((S.set id .gone).push .lin) w := by
      refine ⟨hk.rel.below, fun k x hx => ?_, fun k hk' => ?_, fun i j b1 e2 e3 hi hj li lj gi gj => ?_, ?_, fun k hk' => ?_, rfl⟩
      · show k < S.n + 1
        by_cases hkn : k = S.n
        · omega
        · have : c.γ k = some x := by simpa [c', hkn] using hx
          have := hk.rel.dom k x this; omega
      · have hk2 : k < S.n + 1 := hk'
        rw [TS.push_objs, TS.set_n]
        by_cases hkn : k = S.n
        · rw [if_pos hkn]
          subst hkn
          intro b2 z2 hz2
          rw [hγn] at hz2
          injection hz2 with hz2; injection hz2 with p1 p2; subst p1 p2
          refine ⟨q2, ⟨arr, _, fr, q3, by omega⟩, fun j _ _ => qf j (by omega), fun j hj ha => ?_⟩
          rcases ha with ha | ⟨_, q, hq, rfl⟩
          · exact q5 j ha
          · simp only at hj
            rw [hnl, h1] at hq
            omega
        · rw [if_neg hkn, TS.set_objs]
          by_cases hki : k = id
          · rw [if_pos hki]; trivial
          · rw [if_neg hki]
            refine (hk.rel.obj k (by omega)).keep m (by simp [c', hkn]) (fun hl b' e' hb' => ⟨rfl, fun j hj => ?_⟩)
            rcases hj with hj | ⟨rfl, _⟩
            · exact hj
            · exact (hoth k (by omega) hki hl e' hb').elim
      · have hi' : i < S.n + 1 := hi
        have hj' : j < S.n + 1 := hj
        rw [TS.push_objs, TS.set_n] at li lj
        have key : ∀ k, k ≠ S.n → (if k = S.n then TObj.lin else (S.set id .gone).objs k).live = true → k ≠ id ∧ (S.objs k).live = true := by
          intro k hk hl
          rw [if_neg hk, TS.set_objs] at hl
          by_cases hki : k = id
          · rw [if_pos hki] at hl; cases hl
          · rw [if_neg hki] at hl; exact ⟨hki, hl⟩
        by_cases hin : i = S.n
        · by_cases hjn : j = S.n
          · omega
          · obtain ⟨k1, k2⟩ := key j hjn lj
            have gj' : c.γ j = some (b1, e3) := by simpa [c', hjn] using gj
            have gb : b = b1 := by
              rw [hin, hγn] at gi
              injection gi with gi; injection gi
            subst gb
            exact (hoth j (by omega) k1 k2 e3 gj').elim
        · obtain ⟨k1, k2⟩ := key i hin li
          have gi' : c.γ i = some (b1, e2) := by simpa [c', hin] using gi
          by_cases hjn : j = S.n
          · have gb : b = b1 := by
              rw [hjn, hγn] at gj
              injection gj with gj; injection gj
            subst gb
            exact (hoth i (by omega) k1 k2 e2 gi').elim
          · obtain ⟨p1, p2⟩ := key j hjn lj
            have gj' : c.γ j = some (b1, e3) := by simpa [c', hjn] using gj
            exact hk.rel.inj i j b1 e2 e3 (by omega) (by omega) k2 p2 gi' gj'
      · rintro b' j (hj | ⟨rfl, q, hq, rfl⟩)
        · exact hk.rel.cell b' j hj
        · exact ⟨_, g6 q _ (List.getElem?_eq_getElem hq)⟩
      · have hk2 : S.n + 1 ≤ k := hk'
        rw [TS.push_objs, TS.set_n, if_neg (by omega), TS.set_objs]
        split
        · rfl
        · exact hk.rel.wf k (by omega)
    refine ⟨c', r, m, ?_⟩
    rw [g2]
    refine .sl _ _ _ _ ((g5.step m).sl h1 g3 h2 fun q x hx => ⟨g6 q x hx, .inr ⟨rfl, q, (List.getElem?_eq_some_iff.1 hx).1, rfl⟩⟩) ⟨Nat.lt_succ_self _, .inr ⟨b, e.1 + off, e.1 + off + len * s, e.2, rfl, hγn, rfl, g4⟩⟩
/-- A call's result that may be written, fixed. -/
theorem TCall.freeze {E : Env} {f : FuncId} {args : List TV} {S : TS} {e s len : Nat} {ag : Bool} {cs : List TV} {ds : List D}
    (h : TCall E f args S fun t S' => ∃ id, t = .vs id 0 s len ∧ S.n ≤ id ∧ S'.objs id = .cells e cs ∧ Keep S S') (hl : len * s = cs.length) (hd : ∀ S' id, S'.objs id = .cells e cs → srcD S' ag s (.vs id 0 s len) = some ds) :
    TCall E f args S fun t S' => t = .sl (.own S.n) s ds ∧ S' = S.push .lin := by
  refine TCall.row fun w0 c w vs hk hv => (h w0 c w vs hk hv).mono ?_
  rintro v w' ⟨t, c1, S1, h1, h2, h3, id, rfl, h5, h6, h7⟩
  obtain ⟨c', r1, r2, r3⟩ := h1.freezeOwn h3 (hd S1 id h6) (fun e' cs' ho => by rw [h6] at ho; injection ho with _ ho; subst ho; omega)
  refine ⟨_, c', _, h1.step r1 r2, h2.trans r2, r3, S1.n, rfl, ?_, push_self _ _, ?_⟩
  · exact h7.1
  · exact (h7.set h5 _).push' _
theorem ren_lits {n : Nat} {L : List Nat} {cs : List TV} (h : ∀ x ∈ cs, ∃ v, x = .lit v) : ∀ (j : Nat) t t', cs[j]? = some t → cs[j]? = some t' → Ren n L t t' := by
  intro j t t' h1 h2
  rw [h1] at h2; injection h2 with h2; subst h2
  obtain ⟨v, rfl⟩ := h t (List.mem_of_getElem? h1)
  exact .lit v
theorem Fgt.buf {S S1 : TS} (hw : wfS S) (h : Keep S S1) {k e : Nat} {cs : List TV} (hk : S.n ≤ k) (ho : S1.objs k = .cells e cs) (hr : ∀ x ∈ cs, ∃ v, x = .lit v) : Fgt S S1 [k] (S.push (.cells e cs)) := by
  refine ⟨by simp [TS.push], (by simp), fun k' hk' => ?_, fun id hi => .inl ⟨?_, h.2 id hi⟩, fun i k' hh => ?_, fun id hi => ?_⟩
  · simp at hk'; omega
  · simp only [TS.push]; rw [if_neg (by omega)]
  · cases i with
    | zero => simp at hh; subst hh; rw [ho, Nat.add_zero, push_self]; exact .cells _ _ _ rfl (ren_lits hr)
    | succ i => simp at hh
  · simp only [TS.push] at hi ⊢
    rw [if_neg (by omega)]
    exact hw id (by omega)
theorem TCall.buf {E : Env} {f : FuncId} {args : List TV} {S : TS} {e s len : Nat} {cs : List TV}
    (h : TCall E f args S fun t S' => ∃ id, t = .vs id 0 s len ∧ S.n ≤ id ∧ S'.objs id = .cells e cs ∧ Keep S S') (hr : ∀ x ∈ cs, ∃ v, x = .lit v) : TCall E f args S fun t S' => t = .vs S.n 0 s len ∧ S' = S.push (.cells e cs) :=
  h.forget fun t S1 hw ⟨id, h1, h2, h3, h4⟩ => ⟨[id], _, _, .buf hw h4 h2 h3 hr, by rw [h1]; exact .vs 0 id 0 s len rfl, rfl, rfl⟩
theorem lits_F {α : Type} (f : α → Value) (xs : List α) : ∀ x ∈ cellsD (dF f xs), ∃ v, x = .lit v := by
  intro x hx
  rw [cF] at hx
  obtain ⟨y, _, rfl⟩ := List.mem_map.1 hx
  exact ⟨_, rfl⟩
theorem srcD_F {α : Type} (f : α → Value) (hf : ∀ x, flatT (.lit (f x)) = true) {S : TS} {id e len : Nat} {xs : List α} (h : S.objs id = .cells e (cellsD (dF f xs))) (hl : len = xs.length) (hm : len ≤ LIM) : srcD S false 1 (.vs id 0 1 len) = some (dF f xs) := by
  rw [srcD, h]
  dsimp only
  rw [if_pos ⟨rfl, by rw [cF_len]; omega, fun _ => rfl, cF_flat f hf xs, hm⟩, List.drop_zero, cF_chunks f xs len (by omega), List.take_of_length_le (by omega)]
/-! ### arguments that read in another way -/
theorem RdT.nil_any {c : Cx} {w : World} {g : Tag} {s : Nat} (s' : Nat) {v : Value} (h : RdT c w (.sl g s []) v) (hg : g = .full ∨ g = .none) : RdT c w (.sl g s' []) v := by
  cases h with
  | sl _ _ _ _ h1 h2 =>
    refine .sl _ _ _ _ (h1.nil_any s') ?_
    rcases hg with rfl | rfl
    · cases v <;> exact h2
    · trivial
inductive ArgL : List TV → List TV → Prop
  | nil : ArgL [] []
  | same {x : TV} {a b : List TV} (h : ArgL a b) : ArgL (x :: a) (x :: b)
  | empty {s s' : Nat} {a b : List TV} (h : ArgL a b) : ArgL (.sl .full s [] :: a) (.sl .full s' [] :: b)
  | tag {g : Tag} {s : Nat} {xs : List D} {a b : List TV} (h : ArgL a b) : ArgL (.sl g s xs :: a) (.sl .none s xs :: b)
theorem ArgL.ok {c : Cx} {w : World} {a b : List TV} (h : ArgL a b) : b.length = a.length ∧ ∀ (j : Nat) t t' v, a[j]? = some t → b[j]? = some t' → RdT c w t v → RdT c w t' v := by
  induction h with
  | nil => exact ⟨rfl, fun j t t' v h => by simp at h⟩
  | same _ ih =>
    refine ⟨by simp [ih.1], fun j t t' v h1 h2 h3 => ?_⟩
    cases j with
    | zero => simp at h1 h2; subst h1; subst h2; exact h3
    | succ j => exact ih.2 j t t' v (by simpa using h1) (by simpa using h2) h3
  | empty _ ih =>
    refine ⟨by simp [ih.1], fun j t t' v h1 h2 h3 => ?_⟩
    cases j with
    | zero => simp at h1 h2; subst h1; subst h2; exact h3.nil_any _ (.inl rfl)
    | succ j => exact ih.2 j t t' v (by simpa using h1) (by simpa using h2) h3
  | tag _ ih =>
    refine ⟨by simp [ih.1], fun j t t' v h1 h2 h3 => ?_⟩
    cases j with
    | zero => simp at h1 h2; subst h1; subst h2; cases h3 with | sl _ _ _ _ q1 q2 => exact .sl _ _ _ _ q1 trivial
    | succ j => exact ih.2 j t t' v (by simpa using h1) (by simpa using h2) h3
theorem TCall.argL {E : Env} {f : FuncId} {a b : List TV} {S : TS} {K : TV → TS → Prop} (h : ArgL a b) (hc : TCall E f b S K) : TCall E f a S K :=
  fun w0 c w vs hk hv => hc w0 c w vs hk ⟨by rw [hv.size, (ArgL.ok (c := c) (w := w) h).1], fun j t v h1 h2 => by
    have hj : j < a.length := by
      have := (List.getElem?_eq_some_iff.1 h1).1
      rw [(ArgL.ok (c := c) (w := w) h).1] at this; exact this
    exact (ArgL.ok h).2 j _ t v (List.getElem?_eq_getElem hj) h1 (hv.rd j _ v (List.getElem?_eq_getElem hj) h2)⟩
theorem rem16 (P : Program) (ty : TypeId) (x : BitVec 16) (b : Int) (h : 0 < b ∧ b < 65536) : tvBin P .rem ty (w16 x) (.int .u16 b) = some (w16 (x % BitVec.ofInt 16 b)) := by
  obtain ⟨n, rfl⟩ : ∃ n : Nat, b = (n : Int) := ⟨b.toNat, by omega⟩
  simp only [tvBin, tvInt]
  rw [if_neg (by simp), if_pos trivial, if_neg (by omega), BitVec.ofInt_natCast]
  show some (Value.int .u16 _) = some (Value.int .u16 ((x % BitVec.ofNat 16 n).toNat : Int))
  rw [BitVec.toNat_umod, BitVec.toNat_ofNat, Nat.mod_eq_of_lt (a := n) (by omega), Int.ofNat_tmod]
theorem rem8 (P : Program) (ty : TypeId) (x : BitVec 8) (b : Int) (h : 0 < b ∧ b < 256) : tvBin P .rem ty (w8 x) (.int .u8 b) = some (w8 (x % BitVec.ofInt 8 b)) := by
  obtain ⟨n, rfl⟩ : ∃ n : Nat, b = (n : Int) := ⟨b.toNat, by omega⟩
  simp only [tvBin, tvInt]
  rw [if_neg (by simp), if_pos trivial, if_neg (by omega), BitVec.ofInt_natCast]
  show some (Value.int .u8 _) = some (Value.int .u8 ((x % BitVec.ofNat 8 n).toNat : Int))
  rw [BitVec.toNat_umod, BitVec.toNat_ofNat, Nat.mod_eq_of_lt (a := n) (by omega), Int.ofNat_tmod]
theorem keep_push1 (S : TS) (o : TObj) : Keep S (S.push o) = True := eq_true (Keep.push S o)
attribute [go_sem] rem16 rem8 keep_push1 wrapI
end Go.Proofs.YtlljknmojafkoaaGreatDoor.TL
namespace Go.Proofs.YtlljknmojafkoaaGreatDoor.TL
open Go.RowKit
abbrev Bs := List (BitVec 8)
def st (bs : Bs) : ByteArray := ⟨(bs.map UInt8.ofBitVec).toArray⟩
def ofBA (b : ByteArray) : Bs := b.data.toList.map UInt8.toBitVec
theorem st_size (bs : Bs) : (st bs).size = bs.length := by simp [st, ByteArray.size]
theorem ofBA_st (bs : Bs) : ofBA (st bs) = bs := by
  simp only [ofBA, st, List.map_map]
  have : (UInt8.toBitVec ∘ UInt8.ofBitVec) = id := by funext x; rfl
  rw [this, List.map_id]
theorem st_ofBA (b : ByteArray) : st (ofBA b) = b := by
  obtain ⟨arr⟩ := b
  simp only [ofBA, st, List.map_map]
  have : (UInt8.ofBitVec ∘ UInt8.toBitVec) = id := by funext x; rfl
  rw [this, List.map_id]
theorem st_inj {a b : Bs} : st a = st b ↔ a = b := ⟨fun h => by rw [← ofBA_st a, ← ofBA_st b, h], fun h => by rw [h]⟩
theorem st_get (bs : Bs) (i : Nat) : (((st bs).data[i]?).getD 0).toNat = (bs.getD i 0).toNat := by
  simp only [st, List.getElem?_toArray, List.getElem?_map, List.getD_eq_getElem?_getD]
  cases bs[i]? <;> rfl
theorem st_extract (bs : Bs) (a b : Nat) : (st bs).extract a b = st ((bs.take b).drop a) := by
  have h : ((st bs).extract a b).data = (st ((bs.take b).drop a)).data := by
    rw [ByteArray.data_extract]
    simp [st, List.extract_eq_drop_take', List.map_drop, List.map_take]
  exact ByteArray.ext h
theorem st_app (a b : Bs) : st a ++ st b = st (a ++ b) := by
  apply ByteArray.ext
  rw [ByteArray.data_append]
  simp [st]
theorem st_mk (l : List UInt8) : (⟨l.toArray⟩ : ByteArray) = st (l.map UInt8.toBitVec) := by
  have h := st_ofBA ⟨l.toArray⟩
  have e : ofBA ⟨l.toArray⟩ = l.map UInt8.toBitVec := rfl
  rw [e] at h
  exact h.symm
theorem st_empty : ByteArray.empty = st [] := rfl
theorem st_list (bs : Bs) : (st bs).toList = bs.map UInt8.ofBitVec := by
  rw [ByteArray.toList_eq]; simp [st]
theorem bytesD_st (bs : Bs) : bytesD (st bs) = dB bs := by
  simp only [bytesD, st, dB, List.map_map]
  rfl
theorem unbytes_dB (bs : Bs) : unbytes (dB bs) = some (bs.map fun b => (b.toNat : Int)) := by
  induction bs with
  | nil => rfl
  | cons b bs ih => rw [dB] at ih; simp only [dB, List.map_cons, unbytes, ih, Option.map_some]
theorem strOf_dB (bs : Bs) : strOfNums (bs.map fun b => (b.toNat : Int)) = st bs := by
  unfold strOfNums st
  congr 1
  apply Array.ext'
  simp only [List.map_map]
  apply List.map_congr_left
  intro b _
  simp only [Function.comp_apply, Int.toNat_natCast]
  apply UInt8.toBitVec_inj.1
  simp
/-- The order of strings. -/
def ltS : Bs → Bs → Bool
  | _, [] => false
  | [], _ :: _ => true
  | a :: x, b :: y => decide (a.toNat < b.toNat) || (a == b && ltS x y)
theorem ltS_ok : ∀ (a b : Bs), Op.bytesLess (a.map UInt8.ofBitVec) (b.map UInt8.ofBitVec) = ltS a b
  | [], [] => rfl
  | _ :: _, [] => rfl
  | [], _ :: _ => rfl
  | a :: x, b :: y => by
    simp only [List.map_cons, Op.bytesLess, ltS, ltS_ok x y]
    have h1 : decide (UInt8.ofBitVec a < UInt8.ofBitVec b) = decide (a.toNat < b.toNat) := by
      rw [decide_eq_decide]; exact UInt8.lt_iff_toNat_lt
    have h2 : (UInt8.ofBitVec a == UInt8.ofBitVec b) = (a == b) := by
      rw [Bool.eq_iff_iff, beq_iff_eq, beq_iff_eq]
      exact ⟨fun h => by have := congrArg UInt8.toBitVec h; simpa using this, fun h => by rw [h]⟩
    rw [h1, h2]
theorem eqS_ok (a b : Bs) : ((st a).toList == (st b).toList) = decide (a = b) := by
  rw [Bool.eq_iff_iff, beq_iff_eq, decide_eq_true_iff, ← st_inj]
  constructor
  · intro h
    rw [ByteArray.toList_eq, ByteArray.toList_eq] at h
    exact ByteArray.ext (Array.ext' h)
  · intro h; rw [h]
section
variable (P : Program) (ty : TypeId) (a b : Bs)
theorem str_add (h : a.length + b.length ≤ 140737488355328) : tvBin P .add ty (.string (st a)) (.string (st b)) = some (.string (st (a ++ b))) := by
  simp only [tvBin, tvStr, st_size, if_pos h, st_app]
theorem str_eql : tvBin P .eql ty (.string (st a)) (.string (st b)) = some (.bool (decide (a = b))) := by
  simp only [tvBin, tvStr, eqS_ok]
theorem str_neq : tvBin P .neq ty (.string (st a)) (.string (st b)) = some (.bool (decide (a ≠ b))) := by
  simp only [tvBin, tvStr, eqS_ok]
  simp
theorem str_lss : tvBin P .lss ty (.string (st a)) (.string (st b)) = some (.bool (ltS a b)) := by
  simp only [tvBin, tvStr, st_list, ltS_ok]
theorem str_geq : tvBin P .geq ty (.string (st a)) (.string (st b)) = some (.bool (!(ltS a b))) := by
  simp only [tvBin, tvStr, st_list, ltS_ok]
end
/-- A list of strings. -/
def dT (xs : List Bs) : List D := xs.map fun s => .lit (.string (st s))
theorem dT_len (xs : List Bs) : (dT xs).length = xs.length := by simp [dT]
theorem dT_app (a b : List Bs) : dT (a ++ b) = dT a ++ dT b := by simp [dT]
theorem dT_get {xs : List Bs} {i : Nat} (h : i < xs.length) : (dT xs).getD i default = .lit (.string (st (xs.getD i []))) := by
  simp [dT, List.getD_eq_getElem?_getD, List.getElem?_map, List.getElem?_eq_getElem h]
theorem dT_drop (xs : List Bs) (n : Nat) : (dT xs).drop n = dT (xs.drop n) := by simp [dT, List.map_drop]
theorem dT_take (xs : List Bs) (n : Nat) : (dT xs).take n = dT (xs.take n) := by simp [dT, List.map_take]
theorem cT_len (xs : List Bs) : (cellsD (dT xs)).length = xs.length := cF_len (fun s : Bs => Value.string (st s)) xs
theorem cT_get {xs : List Bs} {i : Nat} (h : i < xs.length) : (cellsD (dT xs)).getD i .unk = .lit (.string (st (xs.getD i []))) := cF_get (fun s : Bs => Value.string (st s)) _ h
theorem cT_set (xs : List Bs) (i : Nat) (x : Bs) : (cellsD (dT xs)).set i (.lit (.string (st x))) = cellsD (dT (xs.set i x)) := cF_set (fun s : Bs => Value.string (st s)) xs i x
theorem cT_app (xs ys : List Bs) : cellsD (dT xs) ++ cellsD (dT ys) = cellsD (dT (xs ++ ys)) := cF_app (fun s : Bs => Value.string (st s)) xs ys
theorem cT_drop (xs : List Bs) (n : Nat) : (cellsD (dT xs)).drop n = cellsD (dT (xs.drop n)) := cF_drop (fun s : Bs => Value.string (st s)) xs n
theorem cT_take (xs : List Bs) (n : Nat) : (cellsD (dT xs)).take n = cellsD (dT (xs.take n)) := cF_take (fun s : Bs => Value.string (st s)) xs n
theorem cT_chunks {xs : List Bs} {n : Nat} (h : n ≤ xs.length) : chunks false 1 n (cellsD (dT xs)) = some (dT (xs.take n)) := cF_chunks (fun s : Bs => Value.string (st s)) xs n h
theorem cT_flat (xs : List Bs) : (cellsD (dT xs)).all flatT = true := cF_flat (fun s : Bs => Value.string (st s)) (fun _ => rfl) xs
theorem unbytesC_dB (bs : Bs) : unbytesC (cellsD (dB bs)) = some (bs.map fun b => (b.toNat : Int)) := by
  induction bs with
  | nil => rfl
  | cons b bs ih =>
    show unbytesC (.lit (w8 b) :: cellsD (dB bs)) = _
    rw [unbytesC, ih]; rfl
attribute [go_sem] unbytesC_dB
attribute [go_sem] st_size st_get st_extract st_mk st_empty bytesD_st unbytes_dB strOf_dB str_add str_eql str_neq str_lss str_geq dT_len dT_get dT_drop dT_take cT_len cT_get cT_set cT_app cT_drop cT_take cT_flat
attribute [go_sem high] cT_chunks
end Go.Proofs.YtlljknmojafkoaaGreatDoor.TL
namespace Go.Proofs.YtlljknmojafkoaaGreatDoor.TL
open Go.RowKit Go.ChangeShapes Go.WideShapes Go.ChangeAt
def cx0 (W : World) : Cx := { A := fun b o => (W.cell? ⟨b, o, none⟩).isSome = true, γ := fun _ => none, n := 0 }
def S0 : TS := ⟨fun _ => .gone, 0⟩
theorem rel0 (W : World) : Rel W (cx0 W) S0 W :=
  ⟨Below.refl _ _, fun id x h => (by cases h), fun id h => absurd h (Nat.not_lt_zero _), fun i j b e e' h => absurd h (Nat.not_lt_zero _), fun b o h => (by
    cases hc : W.cell? ⟨b, o, none⟩ with
    | none => unfold cx0 at h; simp only [hc] at h; cases h
    | some v => exact ⟨v, rfl⟩), fun id h => rfl, rfl⟩
theorem cx0_A {W : World} {b o : Nat} {v : Value} (h : W.cell? ⟨b, o, none⟩ = some v) : (cx0 W).A b o := by
  show (W.cell? ⟨b, o, none⟩).isSome = true
  rw [h]; rfl
theorem spot_none {W : World} {a : Addr} {v : Value} (h : W.cell? a = some v) : a = ⟨a.block, a.off, none⟩ := by
  unfold World.cell? at h
  split at h
  · split at h
    · cases h
    · rename_i hs
      cases a with
      | mk b o s =>
        cases s with
        | none => rfl
        | some s => exact absurd rfl hs
  · cases h
theorem wf_u8 {n : Int} (h : (Lit.int .u8 n).wf = true) : Value.int .u8 n = w8 (BitVec.ofInt 8 n) := by
  have h0 : 0 ≤ n ∧ n ≤ 255 := by simpa [Lit.wf, IntKind.min, IntKind.max, IntKind.bits, IntKind.signed] using h
  congr 1
  rw [BitVec.toNat_ofInt]
  omega
theorem RdCells.nil {c : Cx} {w : World} : RdCells c w [] #[] := ⟨rfl, fun j t v h => by simp at h⟩
theorem RdCells.cons {c : Cx} {w : World} {t : TV} {v : Value} {ts : List TV} {vs : List Value} (h : RdT c w t v) (k : RdCells c w ts vs.toArray) : RdCells c w (t :: ts) (v :: vs).toArray := by
  refine ⟨by have := k.size; simpa using this, fun j t' v' h1 h2 => ?_⟩
  cases j with
  | zero => simp at h1 h2; subst h1; subst h2; exact h
  | succ j => exact k.rd j t' v' (by simpa using h1) (by simpa using h2)
theorem rd_int {c : Cx} {w : World} {u v : Value} (h : v = u) : RdT c w (.lit u) v := by subst h; exact .lit _
section
variable {H : Type} {enc : TypeId × Value → H} {P : Program} {W : World} {base : Nat} {spare : Nat → Bool} {held : Bool}
/-- A listed variable that is an array of whole numbers. -/
theorem laid_ints {n e t : Nat} {k : IntKind} {fuel : Nat} {ns : List Int} {p : List MemPlace} {g : Nat} {nm : String} {arr : Array Value} (ht : P.underlying t = some (.array n e)) (he : P.underlying e = some (.int k)) (hce : P.cellsOf e = 1)
    (hg : P.globalNamed nm = some g) (hv : W.var? P nm = some arr) (h : DataW.trod enc P W base spare held fuel t arr.toList = some (.agg (ns.map fun z => .lit (.int k z)), p)) :
    RdT (cx0 W) W (.eptr n (.agg (ns.map fun z => D.lit (.int k z)))) (.pointer (some ⟨g, 0, none⟩)) := by
  obtain ⟨xs, m, rfl, hx, hlen, hn, hel⟩ := DataW.trod_array ht h
  injection hx with hx _
  injection hx with hx
  have hnl : ns.length = n := by
    have := congrArg List.length hx
    simp at this; omega
  have hd := RdD.aggAt (A := (cx0 W).A) (w := W) (ns.map fun z => D.lit (.int k z)) g 0 (fun j t hj => by
    rw [List.getElem?_map] at hj
    obtain ⟨z, _, rfl⟩ := Option.map_eq_some_iff.1 hj
    rfl) (fun j t hj => by
    rw [List.getElem?_map] at hj
    obtain ⟨z, hz, rfl⟩ := Option.map_eq_some_iff.1 hj
    have hjn : j < n := by rw [← hnl]; exact (List.getElem?_eq_some_iff.1 hz).1
    have h1 := hel j hjn
    have h2 : xs[j]? = some (xs[j]'(by omega)) := List.getElem?_eq_getElem (by omega)
    rw [h2] at h1
    obtain ⟨q, q1, q2, _⟩ := DataW.trod_int he h1
    have h3 : (xs.map (·.1))[j]? = some (.lit (.int k z)) := by rw [← hx, List.getElem?_map, hz]; rfl
    rw [List.getElem?_map, h2, q2] at h3
    simp only [Option.map_some, Option.some.injEq, DataW.lit.injEq, Lit.int.injEq, true_and] at h3
    subst h3
    have hc := World.var?_cell hg hv j
    rw [hce, Nat.mul_one] at q1
    have q3 : arr.toList[j]? = some (.int k q) := by
      have := congrArg (·[0]?) q1
      simp only [List.getElem?_take, List.getElem?_drop, List.getElem?_cons_zero, Nat.add_zero] at this
      simpa using this
    rw [Array.getElem?_toList] at q3
    rw [q3] at hc
    rw [Nat.zero_add]
    exact .one _ _ _ _ rfl (cx0_A hc) hc rfl (.lit _))
  rw [List.length_map, hnl] at hd
  exact .eptr _ _ _ _ hd
end
end Go.Proofs.YtlljknmojafkoaaGreatDoor.TL
