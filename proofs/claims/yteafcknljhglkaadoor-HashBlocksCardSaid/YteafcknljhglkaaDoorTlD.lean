/-
  Quiet operations over tree values: what they yield.
-/
import Derived.Test.YteafcknljhglkaaDoorTlC
set_option linter.unusedVariables false
set_option linter.unusedSimpArgs false
namespace Go.Proofs.YteafcknljhglkaaDoor.TL
open Go.RowKit

theorem RdT.lit_inv {c : Cx} {w : World} {v u : Value} (h : RdT c w (.lit v) u) : u = v := by cases h; rfl

def Yields (E : Env) (c : Cx) (w : World) (a : Act) (o : Oper) (v : TV) : Prop := ∃ u, (execOp a.eval o).run E.P w = .ok (.value u) w ∧ RdT c w v u
def QSem (E : Env) (o : Oper) (T : Nat → TV) (S : TS) (v : TV) : Prop :=
  ∀ w0 c w a, Ok E w0 c S w → Opn E c w T a o.op → Yields E c w a o v

/-! ### numbers, truth values, strings -/
def bitsOf (op : BinOp) (k : IntKind) (x y : Int) : Int :=
  match op with
  | .and => k.wrap (BitVec.ofInt k.bits x &&& BitVec.ofInt k.bits y).toNat
  | .or => k.wrap (BitVec.ofInt k.bits x ||| BitVec.ofInt k.bits y).toNat
  | .xor => k.wrap (BitVec.ofInt k.bits x ^^^ BitVec.ofInt k.bits y).toNat
  | _ => k.wrap (BitVec.ofInt k.bits x &&& ~~~ BitVec.ofInt k.bits y).toNat

def tvInt (op : BinOp) (k : IntKind) (x y : Int) : Option Value :=
  match op with
  | .add => some (.int k (k.wrap (x + y)))
  | .sub => some (.int k (k.wrap (x - y)))
  | .mul => some (.int k (k.wrap (x * y)))
  | .quo => if y = 0 then none else some (.int k (k.wrap (x.tdiv y)))
  | .rem => if y = 0 then none else some (.int k (x.tmod y))
  | .and => some (.int k (bitsOf .and k x y))
  | .or => some (.int k (bitsOf .or k x y))
  | .xor => some (.int k (bitsOf .xor k x y))
  | .andNot => some (.int k (bitsOf .andNot k x y))
  | .eql => some (.bool (x == y))
  | .neq => some (.bool (x != y))
  | .lss => some (.bool (decide (x < y)))
  | .leq => some (.bool (decide (x ≤ y)))
  | .gtr => some (.bool (decide (x > y)))
  | .geq => some (.bool (decide (x ≥ y)))
  | _ => none
def tvShift (op : BinOp) (k : IntKind) (x y : Int) : Option Value :=
  match op with
  | .shl => if y < 0 then none else some (.int k (k.wrap (x * 2 ^ min y.toNat k.bits)))
  | .shr => if y < 0 then none else some (.int k (x.fdiv (2 ^ min y.toNat k.bits)))
  | _ => none
def tvStr (op : BinOp) (x y : ByteArray) : Option Value :=
  match op with
  | .add => if x.size + y.size ≤ LIM then some (.string (x ++ y)) else none
  | .eql => some (.bool (x.toList == y.toList))
  | .neq => some (.bool !(x.toList == y.toList))
  | .lss => some (.bool (Op.bytesLess x.toList y.toList))
  | .leq => some (.bool (Op.bytesLess x.toList y.toList || x.toList == y.toList))
  | .gtr => some (.bool !(Op.bytesLess x.toList y.toList || x.toList == y.toList))
  | .geq => some (.bool !(Op.bytesLess x.toList y.toList))
  | _ => none
def tvBin (P : Program) (op : BinOp) (ty : TypeId) (a b : Value) : Option Value :=
  match a, b with
  | .int k x, .int k' y => if op = .shl ∨ op = .shr then tvShift op k x y else if k = k' then tvInt op k x y else none
  | .string x, .string y => tvStr op x y
  | .bool x, .bool y =>
    match P.underlying ty, op with
    | some .bool, .eql => some (.bool (x == y))
    | some .bool, .neq => some (.bool !(x == y))
    | _, _ => none
  | _, _ => none

theorem run_equalIn_bool {P : Program} {t : TypeId} (h : P.underlying t = some .bool) (x y : Bool) (w : World) (n : Nat) : (Op.equalIn (n + 1) t (.bool x) (.bool y)).run P w = .ok (x == y) w := by
  unfold Op.equalIn
  simp only [Sem.run_bind, run_underlying h, Result.andThen_ok, Sem.run_pure]
theorem run_equal_bool {P : Program} {t : TypeId} (h : P.underlying t = some .bool) (x y : Bool) (w : World) : (Op.equal t (.bool x) (.bool y)).run P w = .ok (x == y) w := run_equalIn_bool h x y w 9999

theorem tvBin_ok {P : Program} {op : BinOp} {ty : TypeId} {a b r : Value} (h : tvBin P op ty a b = some r) (x y : Operand) (w : World) :
    (do eqGuard op ty x y a b; binOp op ty a b : Sem Value).run P w = .ok r w := by
  have hg : (eqGuard op ty x y a b).run P w = .ok () w := by
    unfold eqGuard
    unfold tvBin at h
    split at h <;> (first | (cases op <;> simp [Pure.pure]; done) | cases h)
  simp only [Sem.run_bind, hg, Result.andThen_ok]
  unfold tvBin at h
  split at h
  · rename_i k x k' y
    split at h
    · rename_i hop
      unfold tvShift at h
      rcases hop with rfl | rfl <;> simp only at h <;> split at h <;> first | (cases h; done) | (injection h with h; subst h; simp [binOp, Op.shift, *])
    · rename_i hop
      split at h
      · rename_i hk
        subst hk
        cases op <;> simp only [tvInt] at h <;> first | (cases h; done) | (simp at hop; done) | (injection h with h; subst h; simp [binOp, Op.intArith, Op.intBits, Op.intCmp, bitsOf]; done) |
          (split at h <;> first | (cases h; done) | (injection h with h; subst h; simp [binOp, Op.intDiv, *]; done))
      · cases h
  · rename_i x y
    cases op <;> simp only [tvStr] at h <;> first | (cases h; done) | (injection h with h; subst h; simp [binOp, Op.stringOp]; done) |
      (split at h <;> first | (cases h; done) | (rename_i hle; injection h with h; subst h; simp only [binOp, Op.stringOp]; rw [if_neg (by simp [IntKind.max, IntKind.signed, IntKind.bits, LIM] at *; omega)]; rfl))
  · rename_i x y
    split at h
    · rename_i h1
      injection h with h; subst h
      change (do pure (.bool (← Op.equal ty (.bool x) (.bool y))) : Sem Value).run P w = _
      simp only [Sem.run_bind, run_equal_bool h1, Result.andThen_ok, Sem.run_pure]
    · rename_i h1
      injection h with h; subst h
      change (do pure (.bool (!(← Op.equal ty (.bool x) (.bool y)))) : Sem Value).run P w = _
      simp only [Sem.run_bind, run_equal_bool h1, Result.andThen_ok, Sem.run_pure]
    · cases h
  · cases h

theorem q_bin {E : Env} {o : Oper} {T : Nat → TV} {S : TS} {op : BinOp} {ty yt : TypeId} {x y : Operand} (ho : o.op = .binOp op ty x y yt) {a b r : Value}
    (hx : evO E T x = .lit a) (hy : evO E T y = .lit b) (h : tvBin E.P op ty a b = some r) : QSem E o T S (.lit r) := by
  intro w0 c w act hk hop
  rw [ho] at hop
  have h1 := hop x (by simp [Op.operands])
  have h2 := hop y (by simp [Op.operands])
  rw [hx] at h1; rw [hy] at h2
  have e1 := h1.lit_inv; have e2 := h2.lit_inv
  refine ⟨r, ?_, .lit _⟩
  unfold execOp
  rw [ho]
  simp only [e1, e2, Sem.run_bind, Sem.run_pure, Result.andThen_ok]
  have := tvBin_ok h x y w
  simp only [Sem.run_bind] at this
  generalize hgr : (eqGuard op ty x y a b).run E.P w = g at *
  cases g with
  | ok u w' => simp only [Result.andThen_ok] at this ⊢; rw [this]; rfl
  | halt x w' => simp at this

def tvUn (op : UnOp) (a : Value) : Option Value :=
  match op, a with
  | .neg, .int k x => some (.int k (k.wrap (0 - x)))
  | .xor, .int k x => some (.int k (bitsOf .xor k (if k.signed then -1 else k.max) x))
  | .not, .bool b => some (.bool !b)
  | _, _ => none
theorem q_un {E : Env} {o : Oper} {T : Nat → TV} {S : TS} {op : UnOp} {ty : TypeId} {x : Operand} (ho : o.op = .unOp op ty x) {a r : Value}
    (hx : evO E T x = .lit a) (h : tvUn op a = some r) : QSem E o T S (.lit r) := by
  intro w0 c w act hk hop
  rw [ho] at hop
  have h1 := hop x (by simp [Op.operands])
  rw [hx] at h1
  have e1 := h1.lit_inv
  refine ⟨r, ?_, .lit _⟩
  unfold execOp
  rw [ho]
  simp only [e1]
  unfold tvUn at h
  split at h <;> first | (cases h; done) | (injection h with h; subst h; simp [Op.unary, Op.intArith, Op.intBits, bitsOf])

theorem q_move {E : Env} {o : Oper} {T : Nat → TV} {S : TS} {x : Operand} (ho : o.op = .move x ∨ o.op = .assign x) : QSem E o T S (evO E T x) := by
  intro w0 c w act hk hop
  have h1 : RdT c w (evO E T x) (act.eval x) := by rcases ho with ho | ho <;> (rw [ho] at hop; exact hop x (by simp [Op.operands]))
  refine ⟨act.eval x, ?_, h1⟩
  unfold execOp
  rcases ho with ho | ho <;> rw [ho] <;> rfl

theorem q_pick {E : Env} {o : Oper} {T : Nat → TV} {S : TS} {x y z : Operand} (ho : o.op = .pick x y z) {b : Bool} (hx : evO E T x = .lit (.bool b)) : QSem E o T S (if b then evO E T y else evO E T z) := by
  intro w0 c w act hk hop
  rw [ho] at hop
  have h1 := hop x (by simp [Op.operands])
  rw [hx] at h1
  have e1 := h1.lit_inv
  have h2 := hop y (by simp [Op.operands])
  have h3 := hop z (by simp [Op.operands])
  unfold Yields execOp
  rw [ho]
  cases b
  · exact ⟨act.eval z, by simp [e1, asBool], by simpa using h3⟩
  · exact ⟨act.eval y, by simp [e1, asBool], by simpa using h2⟩

theorem q_convInt {E : Env} {o : Oper} {T : Nat → TV} {S : TS} {s d : TypeId} {x : Operand} (ho : o.op = .convert s d x) {k k' : IntKind} {n : Int} {i j : TI}
    (hs : tiOf E.P s = some i) (hd : tiOf E.P d = some j) (hk : j.desc = .int k') (hx : evO E T x = .lit (.int k n)) : QSem E o T S (.lit (.int k' (k'.wrap n))) := by
  intro w0 c w act hk' hop
  rw [ho] at hop
  have h1 := hop x (by simp [Op.operands])
  rw [hx] at h1
  have e1 := h1.lit_inv
  refine ⟨_, ?_, .lit _⟩
  unfold execOp
  rw [ho]
  simp [e1, convert, (tyIs hs).run_und, (tyIs hd).run_und, hk, Conv.intToInt]

theorem q_convStr {E : Env} {o : Oper} {T : Nat → TV} {S : TS} {s d : TypeId} {x : Operand} (ho : o.op = .convert s d x) {v : ByteArray} {i j : TI}
    (hs : tiOf E.P s = some i) (hd : tiOf E.P d = some j) (hk : j.desc = .string) (hx : evO E T x = .lit (.string v)) : QSem E o T S (.lit (.string v)) := by
  intro w0 c w act hk' hop
  rw [ho] at hop
  have h1 := hop x (by simp [Op.operands])
  rw [hx] at h1
  have e1 := h1.lit_inv
  refine ⟨_, ?_, .lit _⟩
  unfold execOp
  rw [ho]
  simp [e1, convert, (tyIs hs).run_und, (tyIs hd).run_und, hk]

/-! ### loads -/
theorem loadRun {E : Env} {w : World} {t b o : Nat} : (Instr.loadAt t (.pointer (some ⟨b, o, none⟩))).run E.P w = (loadVar t ⟨b, o, none⟩).run E.P w := by
  simp [Instr.loadAt, Instr.sureAddr]

theorem q_loadE {E : Env} {o : Oper} {T : Nat → TV} {S : TS} {t : TypeId} {x : Operand} (ho : o.op = .load t x) {s : Nat} {d : D} {i : TI}
    (ht : tiOf E.P t = some i) (hx : evO E T x = .eptr s d) (ha : isAggD i.desc = d.isAgg) (hs : d.isAgg = true → s = i.size) : QSem E o T S (ofD d) := by
  intro w0 c w act hk hop
  rw [ho] at hop
  have h1 := hop x (by simp [Op.operands])
  rw [hx] at h1
  generalize hv : act.eval x = v at h1
  cases h1 with
  | eptr _ _ b p hd =>
    obtain ⟨u, hu, hr⟩ := hd.loads (tyIs ht) ha hs
    refine ⟨u, ?_, hr⟩
    unfold execOp
    rw [ho]
    simp only [hv, Sem.run_bind, loadRun, hu, Result.andThen_ok, Sem.run_pure]

theorem q_loadP {E : Env} {o : Oper} {T : Nat → TV} {S : TS} {t : TypeId} {x : Operand} (ho : o.op = .load t x) {id off e : Nat} {cs : List TV} {i : TI} {r : TV}
    (ht : tiOf E.P t = some i) (hx : evO E T x = .ptr id off) (hobj : S.objs id = .cells e cs)
    (h : if isAggD i.desc then off + i.size ≤ cs.length ∧ r = .agg ((cs.drop off).take i.size) else cs[off]? = some r) : QSem E o T S r := by
  intro w0 c w act hk hop
  rw [ho] at hop
  have h1 := hop x (by simp [Op.operands])
  rw [hx] at h1
  generalize hv : act.eval x = v at h1
  cases h1 with
  | ptr _ _ b e' hγ =>
    have hob := hk.rel.obj id (hk.rel.dom _ _ hγ)
    rw [hobj] at hob
    obtain ⟨_, _, _, hc, _⟩ := hob.2 b e' hγ
    unfold Yields execOp
    rw [ho]
    simp only [hv, Sem.run_bind, loadRun, loadVar, (tyIs ht).run_isAgg, Result.andThen_ok]
    by_cases hag : isAggD i.desc = true
    · rw [if_pos hag] at h
      obtain ⟨hle, rfl⟩ := h
      simp only [hag, if_true, Sem.run_bind, (tyIs ht).run_size, Result.andThen_ok]
      have hch : ∃ f : Nat → Value, ∀ j, j < i.size → w.cell? ⟨b, e'.1 + off + j, none⟩ = some (f j) ∧ ∃ x, cs[off + j]? = some x ∧ RdT c w x (f j) := by
        refine ⟨fun j => (w.cell? ⟨b, e'.1 + off + j, none⟩).getD default, fun j hj => ?_⟩
        have hlt : off + j < cs.length := by omega
        obtain ⟨v, h1, h2⟩ := hc (off + j) _ (List.getElem?_eq_getElem hlt)
        rw [← Nat.add_assoc] at h1
        simp only [h1, Option.getD_some]
        exact ⟨trivial, _, List.getElem?_eq_getElem hlt, h2⟩
      obtain ⟨f, hf⟩ := hch
      rw [run_loadCells E.P w b (e'.1 + off) i.size f (fun j hj => (hf j hj).1)]
      simp only [Result.andThen_ok, Sem.run_pure]
      refine ⟨_, rfl, .agg _ _ (by simp; omega) fun j t v h1 h2 => ?_⟩
      have hj : j < i.size := by
        rcases Nat.lt_or_ge j i.size with h | h
        · exact h
        · simp [List.getElem?_take, Nat.not_lt.2 h] at h1
      obtain ⟨_, x, hx1, hx2⟩ := hf j hj
      simp [List.getElem?_take, hj, List.getElem?_drop, hx1] at h1
      simp [List.getElem?_range, hj] at h2
      subst h1 h2
      exact hx2
    · rw [if_neg hag] at h
      obtain ⟨v, p, q⟩ := hc off _ h
      simp only [hag, Bool.false_eq_true, if_false, run_load, p, Result.andThen_ok, Sem.run_pure]
      exact ⟨v, rfl, q⟩
end Go.Proofs.YteafcknljhglkaaDoor.TL
