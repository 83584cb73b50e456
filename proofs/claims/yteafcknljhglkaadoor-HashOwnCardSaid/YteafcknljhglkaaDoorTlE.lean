/-
  Quiet operations over tree values, more: fields, elements, slices, lengths.
-/
import Derived.Test.YteafcknljhglkaaDoorTlD
set_option linter.unusedVariables false
set_option linter.unusedSimpArgs false
namespace Go.Proofs.YteafcknljhglkaaDoor.TL
open Go.RowKit

theorem RdD.agg_inv {A : Nat → Nat → Prop} {w : World} {cs : List D} {b o s : Nat} (h : RdD A w (.agg cs) (.at_ b o s)) :
    s = cs.length ∧ (∀ (j : Nat) t, cs[j]? = some t → t.isAgg = false) ∧ ∀ (j : Nat) t, cs[j]? = some t → RdD A w t (.at_ b (o + j) 1) := by
  generalize hx : Tgt.at_ b o s = x at h
  generalize hy : D.agg cs = y at h
  cases h with
  | one _ _ _ v hna hA hc _ h => subst hy; cases hna
  | aggAt cs' _ _ hna h => injection hy with hy; injection hx with h1 h2 h3; subst hy h1 h2 h3; exact ⟨rfl, hna, h⟩
  | _ => cases hx

theorem RdD.sub {A : Nat → Nat → Prop} {w : World} {cs : List D} {b o s : Nat} (h : RdD A w (.agg cs) (.at_ b o s)) (k n : Nat) (hn : k + n ≤ cs.length) :
    RdD A w (.agg ((cs.drop k).take n)) (.at_ b (o + k) n) := by
  obtain ⟨_, h1, h2⟩ := h.agg_inv
  have hl : ((cs.drop k).take n).length = n := by simp; omega
  have key : ∀ (j : Nat) t, ((cs.drop k).take n)[j]? = some t → cs[k + j]? = some t := by
    intro j t hj
    rw [List.getElem?_take] at hj
    split at hj
    · rwa [List.getElem?_drop] at hj
    · cases hj
  have := RdD.aggAt (A := A) (w := w) ((cs.drop k).take n) b (o + k) (fun j t hj => h1 _ t (key j t hj)) (fun j t hj => by have := h2 _ t (key j t hj); rwa [Nat.add_assoc])
  rwa [hl] at this

/-- A part of an aggregate, as a value. -/
def partT (ag : Bool) (cs : List TV) (off size : Nat) : Option TV :=
  if ag then (if off + size ≤ cs.length then some (.agg ((cs.drop off).take size)) else none) else cs[off]?
def partE (ag : Bool) (cs : List D) (off size : Nat) : Option TV :=
  if ag then (if off + size ≤ cs.length then some (.eptr size (.agg ((cs.drop off).take size))) else none)
  else match cs[off]? with
    | some d => some (.eptr 1 d)
    | none => none

theorem partE_ok {c : Cx} {w : World} {cs : List D} {b o s off size : Nat} {ag : Bool} {r : TV} (h : RdD c.A w (.agg cs) (.at_ b o s)) (hr : partE ag cs off size = some r) :
    RdT c w r (.pointer (some ⟨b, o + off, none⟩)) := by
  unfold partE at hr
  split at hr
  · split at hr
    · rename_i hle
      injection hr with hr; subst hr
      exact .eptr _ _ _ _ (h.sub off size hle)
    · cases hr
  · split at hr
    · rename_i d hd
      injection hr with hr; subst hr
      exact .eptr _ _ _ _ (h.agg_inv.2.2 off d hd)
    · cases hr

theorem partT_ok {E : Env} {c : Cx} {w : World} {cs : List TV} {vs : Array Value} {t off : Nat} {i : TI} {r : TV} (ht : TyIs E.P t i)
    (hl : vs.size = cs.length) (h : ∀ (j : Nat) t v, cs[j]? = some t → vs[j]? = some v → RdT c w t v) (hr : partT (isAggD i.desc) cs off i.size = some r) :
    ∃ u, (part t vs off).run E.P w = .ok u w ∧ RdT c w r u := by
  unfold part
  simp only [Sem.run_bind, ht.run_isAgg, Result.andThen_ok]
  unfold partT at hr
  by_cases hag : isAggD i.desc = true
  · rw [if_pos hag] at hr
    simp only [hag, if_true, Sem.run_bind, ht.run_size, Result.andThen_ok, Sem.run_pure]
    split at hr
    · rename_i hle
      injection hr with hr; subst hr
      refine ⟨_, rfl, .agg _ _ (by simp; omega) fun j t v h1 h2 => ?_⟩
      rw [List.getElem?_take] at h1
      split at h1
      · rename_i hj
        rw [List.getElem?_drop] at h1
        refine h (off + j) t v h1 ?_
        rw [Array.getElem?_extract] at h2
        split at h2
        · exact h2
        · cases h2
      · cases h1
    · cases hr
  · rw [if_neg hag] at hr
    simp only [hag, Bool.false_eq_true, if_false]
    have hlt : off < cs.length := by
      rcases Nat.lt_or_ge off cs.length with h | h
      · exact h
      · rw [List.getElem?_eq_none h] at hr; cases hr
    have : vs[off]? = some (vs[off]'(by omega)) := Array.getElem?_eq_getElem (by omega)
    rw [this]
    exact ⟨_, rfl, h off r _ hr this⟩

theorem q_field {E : Env} {o : Oper} {T : Nat → TV} {S : TS} {t : TypeId} {x : Operand} {f : Nat} (ho : o.op = .field t x f) {fs : Array Field} {fld : Field} {cs : List TV} {i j : TI} {r : TV}
    (ht : tiOf E.P t = some i) (hd : i.desc = .struct fs) (hf : fs[f]? = some fld) (hj : tiOf E.P fld.type = some j) (hx : evO E T x = .agg cs) (hr : partT (isAggD j.desc) cs fld.offset j.size = some r) : QSem E o T S r := by
  intro w0 c w act hk hop
  rw [ho] at hop
  have h1 := hop x (by simp [Op.operands])
  rw [hx] at h1
  generalize hv : act.eval x = v at h1
  cases h1 with
  | agg _ vs hl hh =>
    obtain ⟨u, hu, hr'⟩ := partT_ok (tyIs hj) hl hh hr
    refine ⟨u, ?_, hr'⟩
    unfold execOp
    rw [ho]
    simp only [hv, Instr.field, Sem.run_bind, (tyIs ht).run_und, Result.andThen_ok, hd, hf, asAgg, Sem.run_pure, hu]

theorem run_fieldAt {E : Env} {s b o f : Nat} {fs : Array Field} {fld : Field} {i j : TI} (ht : TyIs E.P s i) (hd : i.desc = .struct fs) (hf : fs[f]? = some fld) (hj : TyIs E.P fld.type j) (hs : 0 < j.size) (w : World) :
    (Instr.fieldAt s (.pointer (some ⟨b, o, none⟩)) f).run E.P w = .ok (.pointer (some ⟨b, o + fld.offset, none⟩)) w := by
  simp only [Instr.fieldAt, Sem.run_bind, ht.run_und, Result.andThen_ok, hd, hf, Instr.sureAddr, Sem.run_pure, fieldPlace, hj.run_size]
  rw [if_neg (by omega)]
  simp only [Sem.run_pure, Result.andThen_ok, addr_add]

theorem q_fieldP {E : Env} {o : Oper} {T : Nat → TV} {S : TS} {t : TypeId} {x : Operand} {f : Nat} (ho : o.op = .fieldAddr t x f) {fs : Array Field} {fld : Field} {id off : Nat} {i j : TI}
    (ht : tiOf E.P t = some i) (hd : i.desc = .struct fs) (hf : fs[f]? = some fld) (hj : tiOf E.P fld.type = some j) (hs : 0 < j.size) (hx : evO E T x = .ptr id off) : QSem E o T S (.ptr id (off + fld.offset)) := by
  intro w0 c w act hk hop
  rw [ho] at hop
  have h1 := hop x (by simp [Op.operands])
  rw [hx] at h1
  generalize hv : act.eval x = v at h1
  cases h1 with
  | ptr _ _ b e hγ =>
    refine ⟨_, ?_, .ptr _ _ b e hγ⟩
    unfold execOp
    rw [ho]
    simp only [hv, Sem.run_bind, run_fieldAt (tyIs ht) hd hf (tyIs hj) hs, Result.andThen_ok, Sem.run_pure, Nat.add_assoc]

theorem q_fieldE {E : Env} {o : Oper} {T : Nat → TV} {S : TS} {t : TypeId} {x : Operand} {f : Nat} (ho : o.op = .fieldAddr t x f) {fs : Array Field} {fld : Field} {s : Nat} {cs : List D} {i j : TI} {r : TV}
    (ht : tiOf E.P t = some i) (hd : i.desc = .struct fs) (hf : fs[f]? = some fld) (hj : tiOf E.P fld.type = some j) (hs : 0 < j.size) (hx : evO E T x = .eptr s (.agg cs))
    (hr : partE (isAggD j.desc) cs fld.offset j.size = some r) : QSem E o T S r := by
  intro w0 c w act hk hop
  rw [ho] at hop
  have h1 := hop x (by simp [Op.operands])
  rw [hx] at h1
  generalize hv : act.eval x = v at h1
  cases h1 with
  | eptr _ _ b p hd' =>
    refine ⟨_, ?_, partE_ok hd' hr⟩
    unfold execOp
    rw [ho]
    simp only [hv, Sem.run_bind, run_fieldAt (tyIs ht) hd hf (tyIs hj) hs, Result.andThen_ok, Sem.run_pure]

/-! ### elements -/
theorem run_indexAt_arr {E : Env} {t b o n e : Nat} {i j : TI} (ht : TyIs E.P t i) (hd : i.desc = .array n e) (hj : TyIs E.P e j) (k : IntKind) (m : Int) (h0 : 0 ≤ m) (h1 : m < n) (w : World) :
    (Instr.indexAt t (.pointer (some ⟨b, o, none⟩)) (.int k m)).run E.P w = .ok (.pointer (some ⟨b, o + m.toNat * j.size, none⟩)) w := by
  simp only [Instr.indexAt, asIntOf, Sem.run_bind, Sem.run_pure, Result.andThen_ok, ht.run_und, hd, Instr.sureAddr]
  rw [if_pos ⟨h0, h1⟩]
  simp only [Sem.run_bind, hj.run_size, Result.andThen_ok, Sem.run_pure, addr_add]
theorem run_indexAt_sl {E : Env} {t b o n cap e : Nat} {i j : TI} (ht : TyIs E.P t i) (hd : i.desc = .slice e) (hj : TyIs E.P e j) (k : IntKind) (m : Int) (h0 : 0 ≤ m) (h1 : m < n) (w : World) :
    (Instr.indexAt t (.slice (some ⟨b, o, none⟩) n cap) (.int k m)).run E.P w = .ok (.pointer (some ⟨b, o + m.toNat * j.size, none⟩)) w := by
  simp only [Instr.indexAt, asIntOf, Sem.run_bind, Sem.run_pure, Result.andThen_ok, ht.run_und, hd]
  rw [if_pos ⟨h0, h1⟩]
  simp only [Sem.run_bind, hj.run_size, Result.andThen_ok, Sem.run_pure, addr_add]

theorem q_indexAddrP {E : Env} {o : Oper} {T : Nat → TV} {S : TS} {t : TypeId} {x y : Operand} (ho : o.op = .indexAddr t x y) {id off n e : Nat} {k : IntKind} {m : Int} {i j : TI}
    (ht : tiOf E.P t = some i) (hd : i.desc = .array n e) (hj : tiOf E.P e = some j) (hx : evO E T x = .ptr id off) (hy : evO E T y = .lit (.int k m)) (h0 : 0 ≤ m) (h1 : m < n) : QSem E o T S (.ptr id (off + m.toNat * j.size)) := by
  intro w0 c w act hk hop
  rw [ho] at hop
  have h2 := hop x (by simp [Op.operands])
  have h3 := hop y (by simp [Op.operands])
  rw [hx] at h2; rw [hy] at h3
  have e3 := h3.lit_inv
  generalize hv : act.eval x = v at h2
  cases h2 with
  | ptr _ _ b e hγ =>
    refine ⟨_, ?_, .ptr _ _ b e hγ⟩
    unfold execOp
    rw [ho]
    simp only [hv, e3, Sem.run_bind, run_indexAt_arr (tyIs ht) hd (tyIs hj) k m h0 h1, Result.andThen_ok, Sem.run_pure, Nat.add_assoc]

theorem q_indexAddrE {E : Env} {o : Oper} {T : Nat → TV} {S : TS} {t : TypeId} {x y : Operand} (ho : o.op = .indexAddr t x y) {s n e : Nat} {cs : List D} {k : IntKind} {m : Int} {i j : TI} {r : TV}
    (ht : tiOf E.P t = some i) (hd : i.desc = .array n e) (hj : tiOf E.P e = some j) (hx : evO E T x = .eptr s (.agg cs)) (hy : evO E T y = .lit (.int k m)) (h0 : 0 ≤ m) (h1 : m < n)
    (hr : partE (isAggD j.desc) cs (m.toNat * j.size) j.size = some r) : QSem E o T S r := by
  intro w0 c w act hk hop
  rw [ho] at hop
  have h2 := hop x (by simp [Op.operands])
  have h3 := hop y (by simp [Op.operands])
  rw [hx] at h2; rw [hy] at h3
  have e3 := h3.lit_inv
  generalize hv : act.eval x = v at h2
  cases h2 with
  | eptr _ _ b p hd' =>
    refine ⟨_, ?_, partE_ok hd' hr⟩
    unfold execOp
    rw [ho]
    simp only [hv, e3, Sem.run_bind, run_indexAt_arr (tyIs ht) hd (tyIs hj) k m h0 h1, Result.andThen_ok, Sem.run_pure]

theorem q_indexAddrS {E : Env} {o : Oper} {T : Nat → TV} {S : TS} {t : TypeId} {x y : Operand} (ho : o.op = .indexAddr t x y) {g : Tag} {s e : Nat} {xs : List D} {k : IntKind} {m : Int} {i j : TI}
    (ht : tiOf E.P t = some i) (hd : i.desc = .slice e) (hj : tiOf E.P e = some j) (hx : evO E T x = .sl g s xs) (hy : evO E T y = .lit (.int k m)) (h0 : 0 ≤ m) (h1 : m < xs.length) (hs : s = j.size) :
    QSem E o T S (.eptr s (xs.getD m.toNat default)) := by
  intro w0 c w act hk hop
  rw [ho] at hop
  have h2 := hop x (by simp [Op.operands])
  have h3 := hop y (by simp [Op.operands])
  rw [hx] at h2; rw [hy] at h3
  have e3 := h3.lit_inv
  generalize hv : act.eval x = v at h2
  cases h2 with
  | sl _ _ _ _ hd' _ =>
    cases hd' with
    | nil => simp at h1; omega
    | sl _ _ b p n cap hn hc hm hh =>
      have hlt : m.toNat < xs.length := by omega
      have hg : xs[m.toNat]? = some (xs.getD m.toNat default) := by simp [List.getD_eq_getElem?_getD, List.getElem?_eq_getElem hlt]
      refine ⟨_, ?_, .eptr _ _ b (p + m.toNat * s) (hh _ _ hg)⟩
      unfold execOp
      rw [ho]
      have hmn : m < (n : Int) := by omega
      simp only [hv, e3, Sem.run_bind, run_indexAt_sl (tyIs ht) hd (tyIs hj) k m h0 hmn, Result.andThen_ok, Sem.run_pure, hs]

theorem q_indexAddrV {E : Env} {o : Oper} {T : Nat → TV} {S : TS} {t : TypeId} {x y : Operand} (ho : o.op = .indexAddr t x y) {id off s len e : Nat} {k : IntKind} {m : Int} {i j : TI}
    (ht : tiOf E.P t = some i) (hd : i.desc = .slice e) (hj : tiOf E.P e = some j) (hx : evO E T x = .vs id off s len) (hy : evO E T y = .lit (.int k m)) (h0 : 0 ≤ m) (h1 : m < len) (hs : s = j.size) :
    QSem E o T S (.ptr id (off + m.toNat * s)) := by
  intro w0 c w act hk hop
  rw [ho] at hop
  have h2 := hop x (by simp [Op.operands])
  have h3 := hop y (by simp [Op.operands])
  rw [hx] at h2; rw [hy] at h3
  have e3 := h3.lit_inv
  generalize hv : act.eval x = v at h2
  cases h2 with
  | vsN => exact absurd h1 (by simp; omega)
  | vs _ _ _ _ cap b e hγ hc =>
    refine ⟨_, ?_, .ptr _ _ b e hγ⟩
    unfold execOp
    rw [ho]
    have hmn : m < (len : Int) := by omega
    simp only [hv, e3, Sem.run_bind, run_indexAt_sl (tyIs ht) hd (tyIs hj) k m h0 hmn, Result.andThen_ok, Sem.run_pure, hs, Nat.add_assoc]

theorem q_indexA {E : Env} {o : Oper} {T : Nat → TV} {S : TS} {t : TypeId} {x y : Operand} (ho : o.op = .index t x y) {n e : Nat} {cs : List TV} {k : IntKind} {m : Int} {i j : TI} {r : TV}
    (ht : tiOf E.P t = some i) (hd : i.desc = .array n e) (hj : tiOf E.P e = some j) (hx : evO E T x = .agg cs) (hy : evO E T y = .lit (.int k m)) (h0 : 0 ≤ m) (h1 : m < n)
    (hr : partT (isAggD j.desc) cs (m.toNat * j.size) j.size = some r) : QSem E o T S r := by
  intro w0 c w act hk hop
  rw [ho] at hop
  have h2 := hop x (by simp [Op.operands])
  have h3 := hop y (by simp [Op.operands])
  rw [hx] at h2; rw [hy] at h3
  have e3 := h3.lit_inv
  generalize hv : act.eval x = v at h2
  cases h2 with
  | agg _ vs hl hh =>
    obtain ⟨u, hu, hr'⟩ := partT_ok (tyIs hj) hl hh hr
    refine ⟨u, ?_, hr'⟩
    unfold execOp
    rw [ho]
    simp only [hv, e3, Instr.index, asIntOf, Sem.run_bind, Sem.run_pure, Result.andThen_ok, (tyIs ht).run_und, hd]
    rw [if_pos ⟨h0, h1⟩]
    simp only [Sem.run_bind, (tyIs hj).run_size, Result.andThen_ok, hu, Sem.run_pure]

theorem q_indexStr {E : Env} {o : Oper} {T : Nat → TV} {S : TS} {t : TypeId} {x y : Operand} (ho : o.op = .index t x y) {v : ByteArray} {k : IntKind} {m : Int} {i : TI} 
    (ht : tiOf E.P t = some i) (hd : i.desc = .string) (hx : evO E T x = .lit (.string v)) (hy : evO E T y = .lit (.int k m)) (h0 : 0 ≤ m) (h1 : m.toNat < v.size) :
    QSem E o T S (.lit (.int .u8 (v[m.toNat]'h1).toNat)) := by
  intro w0 c w act hk hop
  rw [ho] at hop
  have h2 := hop x (by simp [Op.operands])
  have h3 := hop y (by simp [Op.operands])
  rw [hx] at h2; rw [hy] at h3
  have e3 := h3.lit_inv
  have e2 := h2.lit_inv
  refine ⟨_, ?_, .lit _⟩
  unfold execOp
  rw [ho]
  simp only [e2, e3, Instr.index, asIntOf, Sem.run_bind, Sem.run_pure, Result.andThen_ok, (tyIs ht).run_und, hd]
  rw [if_pos h0]
  have hg : v[m.toNat]? = some v[m.toNat] := by simp [getElem?_pos, h1]
  rw [hg]
  rfl

theorem q_extract {E : Env} {o : Oper} {T : Nat → TV} {S : TS} {x : Operand} {k : Nat} (ho : o.op = .extract x k) {ts : List TV} {r : TV} (hx : evO E T x = .tup ts) (hr : ts[k]? = some r) : QSem E o T S r := by
  intro w0 c w act hk hop
  rw [ho] at hop
  have h1 := hop x (by simp [Op.operands])
  rw [hx] at h1
  generalize hv : act.eval x = v at h1
  cases h1 with
  | tup _ vs hl hh =>
    have hlt : k < ts.length := by
      rcases Nat.lt_or_ge k ts.length with h | h
      · exact h
      · rw [List.getElem?_eq_none h] at hr; cases hr
    have hg : vs[k]? = some (vs[k]'(by omega)) := Array.getElem?_eq_getElem (by omega)
    refine ⟨_, ?_, hh k r _ hr hg⟩
    unfold execOp
    rw [ho]
    simp only [hv, Instr.extract, hg, Sem.run_bind, Sem.run_pure, Result.andThen_ok]

theorem q_nilCheck {E : Env} {o : Oper} {T : Nat → TV} {S : TS} {x : Operand} (ho : o.op = .nilCheck x) (hx : (∃ id off, evO E T x = .ptr id off) ∨ (∃ s d, evO E T x = .eptr s d)) : QSem E o T S (evO E T x) := by
  intro w0 c w act hk hop
  rw [ho] at hop
  have h1 := hop x (by simp [Op.operands])
  refine ⟨act.eval x, ?_, h1⟩
  unfold execOp
  rw [ho]
  generalize hv : act.eval x = v at h1
  rcases hx with ⟨id, off, hx⟩ | ⟨s, d, hx⟩ <;> rw [hx] at h1 <;> cases h1 <;> simp [hv]

theorem q_makeFunc {E : Env} {o : Oper} {T : Nat → TV} {S : TS} {f : Fn} {first cap : Array Operand} (ho : o.op = .makeFunc f first cap) :
    QSem E o T S (.fn f (first.toList.map (evO E T)) (cap.toList.map (evO E T))) := by
  intro w0 c w act hk hop
  rw [ho] at hop
  have key : ∀ (l : Array Operand), (∀ x ∈ l.toList, RdT c w (evO E T x) (act.eval x)) → ∀ (j : Nat) t v, (l.toList.map (evO E T))[j]? = some t → (l.map act.eval)[j]? = some v → RdT c w t v := by
    intro l hl j t v h1 h2
    rw [List.getElem?_map] at h1
    obtain ⟨x, hx, rfl⟩ := Option.map_eq_some_iff.1 h1
    rw [Array.getElem?_map] at h2
    rw [Array.getElem?_toList] at hx
    rw [hx] at h2
    simp only [Option.map_some, Option.some.injEq] at h2
    subst h2
    exact hl x (by rw [Array.mem_toList_iff]; exact Array.mem_of_getElem? hx)
  refine ⟨_, ?_, .fn f _ _ (first.map act.eval) (cap.map act.eval) (by simp) (by simp) (key first fun x hx => hop x ?_) (key cap fun x hx => hop x ?_)⟩
  · unfold execOp
    rw [ho]
    simp only [Instr.makeFunc, Sem.run_bind, Sem.run_pure, Result.andThen_ok]
  · simp only [Op.operands, Array.toList_append, List.mem_append]; exact .inl hx
  · simp only [Op.operands, Array.toList_append, List.mem_append]; exact .inr hx
end Go.Proofs.YteafcknljhglkaaDoor.TL
