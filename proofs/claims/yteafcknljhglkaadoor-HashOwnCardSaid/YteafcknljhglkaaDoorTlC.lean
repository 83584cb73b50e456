/-
  Operands, types, and the operations that leave memory alone, over tree values; each is sound for the model's own.
-/
import Derived.Test.YteafcknljhglkaaDoorTlB
set_option linter.unusedVariables false
set_option linter.unusedSimpArgs false
namespace Go.Proofs.YteafcknljhglkaaDoor.TL
open Go.RowKit

structure Env where
  P : Program
  G : Nat → TV

structure Ok (E : Env) (w0 : World) (c : Cx) (S : TS) (w : World) : Prop where
  rel : Rel w0 c S w
  glob : ∀ g, RdT c w (E.G g) (.pointer (some ⟨g, 0, none⟩))

theorem Ok.step {E : Env} {w0 : World} {c c' : Cx} {S S' : TS} {w w' : World} (h : Ok E w0 c S w) (r : Rel w0 c' S' w') (m : Mono c w c' w') : Ok E w0 c' S' w' :=
  ⟨r, fun g => (h.glob g).step m⟩

def upd (T : Nat → TV) (i : Nat) (v : TV) : Nat → TV := fun j => if j = i then v else T j
def putT (T : Nat → TV) (dst : Option Nat) (v : TV) : Nat → TV :=
  match dst with
  | some d => upd T d v
  | none => T

def ofConst1 : Value → TV
  | .slice none 0 0 => .sl .full 0 []
  | v => .lit v
def ofConst : Value → TV
  | .agg vs => .agg (vs.toList.map ofConst1)
  | v => ofConst1 v

theorem rd_const1 (c : Cx) (w : World) (v : Value) : RdT c w (ofConst1 v) v := by
  unfold ofConst1
  split
  · exact .sl _ _ _ _ (.nil _ _ _) rfl
  · exact .lit _
theorem rd_const (c : Cx) (w : World) (v : Value) : RdT c w (ofConst v) v := by
  unfold ofConst
  split
  · rename_i vs
    refine .agg _ _ (by simp) fun j t v h1 h2 => ?_
    rw [List.getElem?_map, Array.getElem?_toList, h2] at h1
    simp only [Option.map_some, Option.some.injEq] at h1
    subst h1
    exact rd_const1 c w v
  · exact rd_const1 c w v

def evO (E : Env) (T : Nat → TV) : Operand → TV
  | .tmp t => T t
  | .const v => ofConst v
  | .global g => E.G g
  | .func f => .fn (.func f) [] []

/-- The temporaries read as T says. -/
def Tmps (c : Cx) (w : World) (T : Nat → TV) (a : Act) : Prop := ∀ i v, a.tmps[i]? = some v → RdT c w (T i) v
theorem Tmps.step {c c' : Cx} {w w' : World} {T : Nat → TV} {a : Act} (m : Mono c w c' w') (h : Tmps c w T a) : Tmps c' w' T a := fun i v hv => (h i v hv).step m

def inb (N : Nat) : Operand → Bool
  | .tmp t => decide (t < N)
  | _ => true

/-- The operation's operands read as T says. -/
def Opn (E : Env) (c : Cx) (w : World) (T : Nat → TV) (a : Act) (o : Op) : Prop := ∀ x, x ∈ o.operands.toList → RdT c w (evO E T x) (a.eval x)

theorem evO_ok {E : Env} {w0 : World} {c : Cx} {S : TS} {w : World} {T : Nat → TV} {a : Act} (h : Ok E w0 c S w) (ht : Tmps c w T a) (x : Operand) (hb : inb a.tmps.size x = true) : RdT c w (evO E T x) (a.eval x) := by
  cases x with
  | tmp t =>
    have hlt : t < a.tmps.size := by simpa [inb] using hb
    have : a.tmps[t]? = some (a.tmps.getD t undef) := by simp [Array.getElem?_eq_getElem hlt, Array.getD_eq_getD_getElem?]
    exact ht t _ this
  | const v => exact rd_const c w v
  | global g => exact h.glob g
  | func f => exact .fn _ _ _ _ _ rfl rfl (fun j t v h _ => by simp at h) (fun j t v h _ => by simp at h)

theorem opn_of {E : Env} {w0 : World} {c : Cx} {S : TS} {w : World} {T : Nat → TV} {a : Act} (h : Ok E w0 c S w) (ht : Tmps c w T a) (o : Op) (hb : o.operands.toList.all (inb a.tmps.size) = true) : Opn E c w T a o :=
  fun x hx => evO_ok h ht x (List.all_eq_true.1 hb x hx)

/-! ### types -/
structure TI where
  desc : TypeDesc
  size : Nat
  bytes : Nat
  zero : Value

def tiOf (P : Program) (t : TypeId) : Option TI :=
  match P.info? t, P.underlying t with
  | some i, some d => i.zero.map fun z => ⟨d, i.size, i.bytes, z⟩
  | _, _ => none

structure TyIs (P : Program) (t : TypeId) (i : TI) : Prop where
  und : P.underlying t = some i.desc
  inf : ∃ x, P.info? t = some x ∧ x.size = i.size ∧ x.bytes = i.bytes ∧ x.zero = some i.zero

theorem tyIs {P : Program} {t : TypeId} {i : TI} (h : tiOf P t = some i) : TyIs P t i := by
  unfold tiOf at h
  split at h
  · rename_i x d h1 h2
    obtain ⟨z, hz, rfl⟩ := Option.map_eq_some_iff.1 h
    exact ⟨h2, x, h1, rfl, rfl, hz⟩
  · cases h

def isAggD : TypeDesc → Bool
  | .struct _ | .array _ _ => true
  | _ => false

theorem run_typeInfo' {P : Program} {t : TypeId} {x : TypeInfo} (h : P.info? t = some x) (w : World) : (typeInfo t).run P w = .ok x w := by simp [typeInfo, h]
theorem TyIs.run_size {P : Program} {t : TypeId} {i : TI} (h : TyIs P t i) (w : World) : (sizeOf t).run P w = .ok i.size w := by
  obtain ⟨x, h1, h2, _⟩ := h.inf
  simp [sizeOf, run_typeInfo' h1, h2]
theorem TyIs.run_und {P : Program} {t : TypeId} {i : TI} (h : TyIs P t i) (w : World) : (underlying t).run P w = .ok i.desc w := run_underlying h.und w
theorem TyIs.run_isAgg {P : Program} {t : TypeId} {i : TI} (h : TyIs P t i) (w : World) : (isAgg t).run P w = .ok (isAggD i.desc) w := by
  unfold isAgg
  simp only [Sem.run_bind, h.run_und, Result.andThen_ok]
  cases i.desc <;> rfl
theorem TyIs.run_zero {P : Program} {t : TypeId} {i : TI} (h : TyIs P t i) (w : World) : (zeroValue t).run P w = .ok i.zero w := by
  obtain ⟨x, h1, _, _, h2⟩ := h.inf
  simp [zeroValue, run_typeInfo' h1, h2]

theorem addr_add (b o n : Nat) : (⟨b, o, none⟩ : Addr).add n = ⟨b, o + n, none⟩ := by unfold Addr.add; split <;> simp_all

theorem run_loadCellsFrom (P : Program) (w : World) (b o : Nat) : ∀ (n i : Nat) (f : Nat → Value) (acc : Array Value), (∀ j, j < n → w.cell? ⟨b, o + (i + j), none⟩ = some (f (i + j))) →
    (loadCellsFrom ⟨b, o, none⟩ i n acc).run P w = .ok (acc ++ ((List.range' i n).map f).toArray) w := by
  intro n
  induction n with
  | zero => intro i f acc _; simp [loadCellsFrom]
  | succ n ih =>
    intro i f acc h
    have h0 := h 0 (by omega)
    simp only [Nat.add_zero] at h0
    simp only [loadCellsFrom, Sem.run_bind, addr_add, run_load, h0, Result.andThen_ok]
    rw [ih (i + 1) f _ (fun j hj => by have := h (j + 1) (by omega); rw [show i + 1 + j = i + (j + 1) by omega]; exact this)]
    simp [List.range'_succ]

theorem run_loadCells (P : Program) (w : World) (b o n : Nat) (f : Nat → Value) (h : ∀ j, j < n → w.cell? ⟨b, o + j, none⟩ = some (f j)) :
    (loadCells ⟨b, o, none⟩ n).run P w = .ok ((List.range n).map f).toArray w := by
  unfold loadCells
  rw [run_loadCellsFrom P w b o n 0 f #[] (fun j hj => by simpa using h j hj)]
  simp [List.range_eq_range']

def ofD1 : D → TV
  | .lit v => .lit v
  | .sl s xs => .sl .none s xs
  | .agg _ => .unk
def ofD : D → TV
  | .agg cs => .agg (cs.map ofD1)
  | d => ofD1 d

theorem rd_ofD1 {c : Cx} {w : World} {d : D} {v : Value} (h : RdD c.A w d (.val v)) : RdT c w (ofD1 d) v := by
  cases d with
  | lit v' => cases h; exact .lit _
  | sl s xs => exact .sl _ _ _ _ h trivial
  | agg cs => exact .unk _
theorem rd_ofD {c : Cx} {w : World} {d : D} {v : Value} (h : RdD c.A w d (.val v)) : RdT c w (ofD d) v := by
  cases d with
  | lit v' => exact rd_ofD1 h
  | sl s xs => exact rd_ofD1 h
  | agg cs =>
    cases h with
    | agg _ vs hl hh =>
      refine .agg _ _ (by simpa using hl) fun j t v h1 h2 => ?_
      rw [List.getElem?_map] at h1
      obtain ⟨d, hd, rfl⟩ := Option.map_eq_some_iff.1 h1
      exact rd_ofD1 (hh j d v hd h2)

theorem RdD.cell_of {A : Nat → Nat → Prop} {w : World} {d : D} {b o s : Nat} (h : RdD A w d (.at_ b o s)) (hn : d.isAgg = false) : ∃ v, A b o ∧ w.cell? ⟨b, o, none⟩ = some v ∧ v.oneCell' = true ∧ RdD A w d (.val v) := by
  generalize hx : Tgt.at_ b o s = x at h
  cases h with
  | one _ _ _ v hna hA hc ho h => injection hx with h1 h2 h3; subst h1 h2; exact ⟨v, hA, hc, ho, h⟩
  | aggAt cs _ _ hna h => cases hn
  | _ => cases hx

/-- What stands at a place, as a variable of its type is loaded. -/
theorem RdD.loads {E : Env} {c : Cx} {w : World} {d : D} {b o s t : Nat} {i : TI} (h : RdD c.A w d (.at_ b o s)) (ht : TyIs E.P t i) (ha : isAggD i.desc = d.isAgg) (hs : d.isAgg = true → s = i.size) :
    ∃ u, (loadVar t ⟨b, o, none⟩).run E.P w = .ok u w ∧ RdT c w (ofD d) u := by
  unfold loadVar
  simp only [Sem.run_bind, ht.run_isAgg, Result.andThen_ok]
  cases h with
  | one _ _ _ v hna hA hc _ h =>
    rw [ha, hna]
    simp only [Bool.false_eq_true, if_false, run_load, hc]
    exact ⟨v, rfl, rd_ofD h⟩
  | aggAt cs _ _ hna h =>
    rw [ha]
    have hs' := hs rfl
    simp only [D.isAgg, if_true, Sem.run_bind, ht.run_size, Result.andThen_ok]
    have hcell : ∀ j, j < cs.length → ∃ v, w.cell? ⟨b, o + j, none⟩ = some v ∧ RdT c w (ofD1 (cs.getD j default)) v := by
      intro j hj
      have hg : cs[j]? = some (cs.getD j default) := by simp [List.getD_eq_getElem?_getD, List.getElem?_eq_getElem hj]
      have h' := h j _ hg
      have hn := hna j _ hg
      obtain ⟨v, _, hc, _, hv⟩ := h'.cell_of hn
      exact ⟨v, hc, rd_ofD1 hv⟩
    have hch : ∃ f : Nat → Value, ∀ j, j < cs.length → w.cell? ⟨b, o + j, none⟩ = some (f j) ∧ RdT c w (ofD1 (cs.getD j default)) (f j) := by
      refine ⟨fun j => (w.cell? ⟨b, o + j, none⟩).getD default, fun j hj => ?_⟩
      obtain ⟨v, h1, h2⟩ := hcell j hj
      simp only [h1, Option.getD_some]; exact ⟨trivial, h2⟩
    obtain ⟨f, hf⟩ := hch
    rw [run_loadCells E.P w b o i.size f (fun j hj => (hf j (by omega)).1)]
    simp only [Result.andThen_ok, Sem.run_pure]
    refine ⟨_, rfl, .agg _ _ (by simp [← hs']) fun j t v h1 h2 => ?_⟩
    rw [List.getElem?_map] at h1
    obtain ⟨d, hd, rfl⟩ := Option.map_eq_some_iff.1 h1
    have hj : j < cs.length := by
      rcases Nat.lt_or_ge j cs.length with h | h
      · exact h
      · rw [List.getElem?_eq_none h] at hd; cases hd
    have hfj := (hf j hj).2
    simp [List.getElem?_range, ← hs', hj] at h2
    rw [List.getD_eq_getElem?_getD, hd] at hfj
    rw [← h2]; exact hfj
end Go.Proofs.YteafcknljhglkaaDoor.TL
