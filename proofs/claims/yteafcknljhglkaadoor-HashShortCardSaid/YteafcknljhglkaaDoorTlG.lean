/-
  Operations over tree values that make or change memory: variables, stores, literals, make.
-/
import Derived.Test.YteafcknljhglkaaDoorTlF
set_option linter.unusedVariables false
set_option linter.unusedSimpArgs false
namespace Go.Proofs.YteafcknljhglkaaDoor.TL
open Go.RowKit

def Fin (E : Env) (w0 : World) (c : Cx) (w : World) (K : TV → TS → Prop) (v : Value) (w' : World) : Prop :=
  ∃ t c' S', Ok E w0 c' S' w' ∧ Mono c w c' w' ∧ RdT c' w' t v ∧ K t S'

def ESem (E : Env) (o : Oper) (T : Nat → TV) (S : TS) (K : TV → TS → Prop) : Prop :=
  ∀ w0 c w a, Ok E w0 c S w → Opn E c w T a o.op → ∀ (next : Act → World → Prop) (Q : Exit → Act → World → Prop),
    (∀ v w', Fin E w0 c w K v w' → next (a.put o.dst v) w') → o.wp E.P a w next Q

theorem ESem.of_run {E : Env} {o : Oper} {T : Nat → TV} {S : TS} {K : TV → TS → Prop}
    (h : ∀ w0 c w a, Ok E w0 c S w → Opn E c w T a o.op → ∃ v w', ((execOp a.eval o).run E.P w = .ok (.value v) w' ∨ ((execOp a.eval o).run E.P w = .ok .skip w' ∧ v = undef)) ∧ Fin E w0 c w K v w') : ESem E o T S K := by
  intro w0 c w a hk ho next Q hn
  obtain ⟨v, w', hr, hf⟩ := h w0 c w a hk ho
  unfold Oper.wp
  rcases hr with hr | ⟨hr, rfl⟩
  · rw [hr]; exact hn v w' hf
  · rw [hr]; exact hn undef w' hf

theorem ESem.of_quiet {E : Env} {o : Oper} {T : Nat → TV} {S : TS} {K : TV → TS → Prop} {v : TV} (h : QSem E o T S v) (hK : K v S) : ESem E o T S K :=
  .of_run fun w0 c w a hk ho =>
    let ⟨u, h1, h2⟩ := h w0 c w a hk ho
    ⟨u, w, .inl h1, v, c, S, hk, Mono.refl c w, h2, hK⟩

/-! ### cells of a value -/
def cellsT : TV → List TV
  | .agg cs => cs
  | t => [t]
def flatT : TV → Bool
  | .lit (.agg _) | .lit (.tuple _) | .unk | .tup _ | .agg _ => false
  | _ => true
/-- A value that fills one cell, or an aggregate of such. -/
def cellT : TV → Bool
  | .agg cs => cs.all flatT
  | t => flatT t

theorem flat_one {c : Cx} {w : World} {t : TV} {v : Value} (h : RdT c w t v) (hf : flatT t = true) : v.cells = #[v] ∧ v.oneCell' = true := by
  cases h with
  | lit v => cases v <;> first | (cases hf; done) | exact ⟨rfl, rfl⟩
  | sl g s xs v h hg => cases h <;> exact ⟨rfl, rfl⟩
  | unk => cases hf
  | agg => cases hf
  | tup => cases hf
  | _ => exact ⟨rfl, rfl⟩

structure RdCells (c : Cx) (w : World) (ts : List TV) (vs : Array Value) : Prop where
  size : vs.size = ts.length
  rd : ∀ (j : Nat) t v, ts[j]? = some t → vs[j]? = some v → RdT c w t v

theorem RdCells.step {c c' : Cx} {w w' : World} (m : Mono c w c' w') {ts : List TV} {vs : Array Value} (h : RdCells c w ts vs) : RdCells c' w' ts vs :=
  ⟨h.size, fun j t v h1 h2 => (h.rd j t v h1 h2).step m⟩

theorem RdCells.single {c : Cx} {w : World} {t : TV} {v : Value} (h : RdT c w t v) (hf : flatT t = true) (hc : cellsT t = [t]) : RdCells c w (cellsT t) v.cells ∧ (∀ x ∈ v.cells.toList, x.oneCell' = true) := by
  obtain ⟨h1, h2⟩ := flat_one h hf
  rw [hc, h1]
  refine ⟨⟨rfl, fun j x u hx hu => ?_⟩, fun x hx => ?_⟩
  · cases j with
    | zero => simp at hx hu; subst hx hu; exact h
    | succ j => simp at hx
  · simp at hx; subst hx; exact h2

theorem RdCells.of {c : Cx} {w : World} {t : TV} {v : Value} (h : RdT c w t v) (hf : cellT t = true) : RdCells c w (cellsT t) v.cells ∧ (∀ x ∈ v.cells.toList, x.oneCell' = true) := by
  cases t with
  | agg cs =>
    cases h with
    | agg _ vs hl hh =>
      refine ⟨⟨hl, hh⟩, fun x hx => ?_⟩
      obtain ⟨j, hj, rfl⟩ := List.getElem_of_mem hx
      simp only [Value.cells, Array.length_toList] at hj
      have hjc : j < cs.length := by omega
      have := hh j cs[j] vs[j] (List.getElem?_eq_getElem hjc) (Array.getElem?_eq_getElem hj)
      simp only [Value.cells, Array.getElem_toList]
      exact (flat_one this (List.all_eq_true.1 hf _ (List.getElem_mem hjc))).2
  | _ => exact RdCells.single h hf rfl

/-! ### a store into one cell, into several -/
theorem Rel.store1 {w0 : World} {c : Cx} {S : TS} {w : World} (h : Rel w0 c S w) {id b e off : Nat} {z : Nat × Nat} {cs : List TV} {x : TV} {v : Value} (hobj : S.objs id = .cells e cs) (hγ : c.γ id = some (b, z)) (hlt : off < cs.length) (hr : RdT c w x v) :
    Rel w0 c (S.set id (.cells e (cs.set off x))) (w.setCell ⟨b, z.1 + off, none⟩ v) ∧ Mono c w c (w.setCell ⟨b, z.1 + off, none⟩ v) := by
  have hid := h.dom _ _ hγ
  have hob := h.obj id hid
  rw [hobj] at hob
  obtain ⟨g2, ⟨arr, fr, g3, gz, gl⟩, gf, g4, g5⟩ := hob.2 b z hγ
  refine h.change id _ b z hid hγ (by rw [hobj]; rfl) g2 (by simp) ⟨rfl, rfl, rfl⟩ (fun k hk => Below.heap_setCell w _ _ k hk) (fun j ha => absurd ha (g5 j)) ?_
  refine fun m => ⟨fun hn => (by rw [hγ] at hn; cases hn), fun b2 z2 hγ2 => ?_⟩
  rw [hγ] at hγ2
  injection hγ2 with hγ2; injection hγ2 with q1 q2; subst q1 q2
  refine ⟨g2, ⟨arr.setIfInBounds (z.1 + off) v, fr, ?_, by simp [gz], by simpa using gl⟩, fun j => by rw [World.frozen?_setCell]; exact gf j, ?_, g5⟩
  · simp [World.setCell, Array.getElem?_modify, g3]
  · intro j y hy
    rw [List.getElem?_set] at hy
    by_cases hj : off = j
    · subst hj
      simp [hlt] at hy
      subst hy
      obtain ⟨u, p, _⟩ := g4 off _ (List.getElem?_eq_getElem hlt)
      exact ⟨v, World.cell?_setCell_same w ⟨b, z.1 + off, none⟩ v p, hr.step m⟩
    · rw [if_neg hj] at hy
      obtain ⟨u, p, r⟩ := g4 j y hy
      refine ⟨u, ?_, r.step m⟩
      rw [World.cell?_setCell_other w ⟨b, z.1 + off, none⟩ ⟨b, z.1 + j, none⟩ v (by intro hh; injection hh with _ hh; omega)]
      exact p

def spl : List TV → Nat → List TV → List TV
  | cs, _, [] => cs
  | cs, off, x :: xs => spl (cs.set off x) (off + 1) xs
@[simp] theorem spl_length : ∀ (xs : List TV) (cs : List TV) (off : Nat), (spl cs off xs).length = cs.length
  | [], _, _ => rfl
  | x :: xs, cs, off => by simp only [spl]; rw [spl_length xs]; simp

theorem TS.set_set (S : TS) (id : Nat) (o o' : TObj) : (S.set id o).set id o' = S.set id o' := by
  unfold TS.set
  congr 1
  funext i
  by_cases h : i = id <;> simp [h]
theorem TS.set_same (S : TS) (id : Nat) (o : TObj) (h : S.objs id = o) : S.set id o = S := by
  cases S with
  | mk objs n =>
    unfold TS.set
    congr 1
    funext i
    by_cases hi : i = id
    · simp [hi]; exact h.symm
    · simp [hi]

theorem Rel.storeN {w0 : World} {P : Program} : ∀ (vs : List Value) (xs : List TV) (i : Nat) {c : Cx} {S : TS} {w : World} {id b e off : Nat} {z : Nat × Nat} {cs : List TV}, Rel w0 c S w → S.objs id = .cells e cs → c.γ id = some (b, z) →
    off + i + xs.length ≤ cs.length → RdCells c w xs vs.toArray → (∀ x ∈ vs, x.oneCell' = true) →
    ∃ w', (storeCells ⟨b, z.1 + off, none⟩ vs i).run P w = .ok () w' ∧ Rel w0 c (S.set id (.cells e (spl cs (off + i) xs))) w' ∧ Mono c w c w'
  | [], xs, i, c, S, w, id, b, e, off, z, cs, h, hobj, hγ, hle, hr, h1 => by
    have : xs = [] := List.eq_nil_of_length_eq_zero (by have := hr.size; simpa using this.symm)
    subst this
    refine ⟨w, by simp [storeCells], ?_, Mono.refl c w⟩
    simp only [spl]
    rw [TS.set_same S id _ hobj]; exact h
  | v :: vs, [], i, c, S, w, id, b, e, off, z, cs, h, hobj, hγ, hle, hr, h1 => by have := hr.size; simp at this
  | v :: vs, x :: xs, i, c, S, w, id, b, e, off, z, cs, h, hobj, hγ, hle, hr, h1 => by
    simp only [List.length_cons] at hle
    have hlt : off + i < cs.length := by omega
    have hrv : RdT c w x v := hr.rd 0 x v (by simp) (by simp)
    obtain ⟨r1, m1⟩ := h.store1 hobj hγ hlt hrv
    have hcell := h.obj id (h.dom _ _ hγ)
    rw [hobj] at hcell
    obtain ⟨_, _, gf, g4, _⟩ := hcell.2 b z hγ
    obtain ⟨u, p, _⟩ := g4 (off + i) _ (List.getElem?_eq_getElem hlt)
    have q := gf (z.1 + (off + i))
    have hr' : RdCells c (w.setCell ⟨b, z.1 + (off + i), none⟩ v) xs vs.toArray := by
      refine ⟨by have := hr.size; simpa using this, fun j t u h2 h3 => ?_⟩
      exact (hr.rd (j + 1) t u (by simpa using h2) (by simpa using h3)).step m1
    obtain ⟨w', k1, k2, k3⟩ := Rel.storeN (P := P) (off := off) vs xs (i + 1) r1 (by rw [TS.set_objs, if_pos rfl]) hγ (by rw [List.length_set]; omega) hr' (fun y hy => h1 y (List.mem_cons_of_mem _ hy))
    refine ⟨w', ?_, ?_, m1.trans k3⟩
    · simp only [storeCells, Sem.run_bind, addr_add, Nat.add_assoc]
      rw [run_store P w _ v .plain (h1 v (by simp)), p]
      simp only [q, Bool.false_eq_true, if_false, Result.andThen_ok]
      exact k1
    · rw [TS.set_set] at k2
      exact k2

theorem e_store {E : Env} {o : Oper} {T : Nat → TV} {S : TS} {t : TypeId} {x y : Operand} (ho : o.op = .store t x y) {id off e : Nat} {cs : List TV} {i : TI} {K : TV → TS → Prop}
    (ht : tiOf E.P t = some i) (hx : evO E T x = .ptr id off) (hobj : S.objs id = .cells e cs) (hf : cellT (evO E T y) = true) (hl : (cellsT (evO E T y)).length = i.size) (hle : off + i.size ≤ cs.length)
    (hK : K .unk (S.set id (.cells e (spl cs off (cellsT (evO E T y)))))) : ESem E o T S K := by
  refine .of_run fun w0 c w a hk hop => ?_
  rw [ho] at hop
  have h1 := hop x (by simp [Op.operands])
  have h2 := hop y (by simp [Op.operands])
  rw [hx] at h1
  generalize hv : a.eval x = v at h1
  cases h1 with
  | ptr _ _ b z hγ =>
    obtain ⟨hc, h1⟩ := RdCells.of h2 hf
    obtain ⟨w', k1, k2, k3⟩ := Rel.storeN (P := E.P) (off := off) (a.eval y).cells.toList (cellsT (evO E T y)) 0 hk.rel hobj hγ (by omega) (by simpa using hc) h1
    refine ⟨undef, w', .inr ⟨?_, rfl⟩, .unk, c, _, hk.step k2 k3, k3, .unk _, hK⟩
    have hsz : (a.eval y).cells.size = i.size := by rw [hc.size, hl]
    unfold execOp
    rw [ho]
    simp only [hv, Instr.storeAt, Instr.sureAddr, storeVar, Sem.run_bind, Sem.run_pure, Result.andThen_ok, (tyIs ht).run_size]
    rw [if_neg (by omega)]
    rw [k1]
    rfl

/-! ### new variables -/
theorem Rel.newCells {w0 : World} {c : Cx} {S : TS} {w : World} (h : Rel w0 c S w) (e : TypeId) (ts : List TV) (vs : Array Value) (hr : RdCells c w ts vs) :
    ∃ c', Rel w0 c' (S.push (.cells e ts)) (w.alloc (.cells vs e)) ∧ Mono c w c' (w.alloc (.cells vs e)) ∧ c'.γ S.n = some (w.heap.size, (0, vs.size)) := by
  obtain ⟨c', r, m, g, _⟩ := h.alloc (.cells vs e) (.cells e ts) (0, vs.size) (fun _ => False) (fun j hj => hj.elim) (by
    intro c' m g hA
    refine ⟨fun hn => (by rw [g] at hn; cases hn), fun b2 z2 hγ2 => ?_⟩
    rw [g] at hγ2
    injection hγ2 with hγ2; injection hγ2 with q1 q2; subst q1 q2
    refine ⟨h.le, ⟨vs, (0, 0), heap_alloc_new w _, rfl, by simp [hr.size]⟩, fun j => by simp, ?_, fun j ha => (hA j).1 ha⟩
    intro j x hx
    have hj : j < vs.size := by
      rw [hr.size]
      rcases Nat.lt_or_ge j ts.length with h | h
      · exact h
      · rw [List.getElem?_eq_none h] at hx; cases hx
    have hv : vs[j]? = some vs[j] := Array.getElem?_eq_getElem hj
    exact ⟨vs[j], by rw [Nat.zero_add, World.cell?_alloc_new]; exact hv, (hr.rd j x _ hx hv).step m⟩)
  exact ⟨c', r, m, g⟩

theorem e_new {E : Env} {o : Oper} {T : Nat → TV} {S : TS} {e : TypeId} {t : TV} {K : TV → TS → Prop} (hf : cellT t = true)
    (hrun : ∀ w0 c w a, Ok E w0 c S w → Opn E c w T a o.op → ∃ v, RdT c w t v ∧ (execOp a.eval o).run E.P w = .ok (.value (.pointer (some ⟨w.heap.size, 0, none⟩))) (w.alloc (.cells v.cells e)))
    (hK : K (.ptr S.n 0) (S.push (.cells e (cellsT t)))) : ESem E o T S K := by
  refine .of_run fun w0 c w a hk hop => ?_
  obtain ⟨v, hv, hr⟩ := hrun w0 c w a hk hop
  obtain ⟨c', r, m, g⟩ := hk.rel.newCells e (cellsT t) v.cells (RdCells.of hv hf).1
  exact ⟨_, _, .inl hr, _, c', _, hk.step r m, m, .ptr _ _ _ _ g, hK⟩

theorem e_alloc {E : Env} {o : Oper} {T : Nat → TV} {S : TS} {e : TypeId} (ho : o.op = .alloc e) {i : TI} {K : TV → TS → Prop} (ht : tiOf E.P e = some i) (hf : cellT (ofConst i.zero) = true)
    (hK : K (.ptr S.n 0) (S.push (.cells e (cellsT (ofConst i.zero))))) : ESem E o T S K := by
  refine e_new hf (fun w0 c w a hk hop => ⟨i.zero, rd_const c w _, ?_⟩) hK
  unfold execOp
  rw [ho]
  simp only [Instr.alloc, Sem.run_bind, (tyIs ht).run_zero, Result.andThen_ok, newVar, newRow, run_newObj, Sem.run_pure]
  rfl

theorem e_box {E : Env} {o : Oper} {T : Nat → TV} {S : TS} {e : TypeId} {x : Operand} (ho : o.op = .box e x) {K : TV → TS → Prop} (hf : cellT (evO E T x) = true)
    (hK : K (.ptr S.n 0) (S.push (.cells e (cellsT (evO E T x))))) : ESem E o T S K := by
  refine e_new hf (fun w0 c w a hk hop => ?_) hK
  rw [ho] at hop
  refine ⟨a.eval x, hop x (by simp [Op.operands]), ?_⟩
  unfold execOp
  rw [ho]
  simp only [Instr.box, Sem.run_bind, newVar, newRow, run_newObj, Result.andThen_ok, Sem.run_pure]
  rfl
end Go.Proofs.YteafcknljhglkaaDoor.TL
