/-
  Tree values: pure data trees read off memory, abstract objects, and the relation between an abstract state and a world. Nothing here speaks of any program.
-/
import Derived.WalkKit
import Derived.KernelRfl
import Derived.Deep.LoopGhost
set_option linter.unusedVariables false
set_option linter.unusedSimpArgs false
namespace Go.Proofs.YteafcknljhglkaaDoor.TL
open Go.RowKit

/-- Pure data: a scalar, a slice's elements (each of so many cells), a struct's or an array's cells. -/
inductive D where
  | lit (v : Value)
  | sl (s : Nat) (xs : List D)
  | agg (cs : List D)
deriving Inhabited

def D.isAgg : D → Bool
  | .agg _ => true
  | _ => false

/-- How many elements a slice may have at the most. -/
abbrev LIM : Nat := 140737488355328

inductive Tgt where
  | val (v : Value)
  | at_ (b o s : Nat)

/-- A datum is read off a value, or off so many cells at a place; all cells that are read are of the set A. -/
inductive RdD (A : Nat → Nat → Prop) (w : World) : D → Tgt → Prop
  | lit (v : Value) : RdD A w (.lit v) (.val v)
  | agg (cs : List D) (vs : Array Value) (hl : vs.size = cs.length)
      (h : ∀ (j : Nat) t v, cs[j]? = some t → vs[j]? = some v → RdD A w t (.val v)) : RdD A w (.agg cs) (.val (.agg vs))
  | nil (s : Nat) (a : Option Addr) (cap : Nat) : RdD A w (.sl s []) (.val (.slice a 0 cap))
  | sl (s : Nat) (xs : List D) (b o n cap : Nat) (hn : xs.length = n) (hc : n ≤ cap) (hm : n ≤ LIM)
      (h : ∀ (i : Nat) t, xs[i]? = some t → RdD A w t (.at_ b (o + i * s) s)) : RdD A w (.sl s xs) (.val (.slice (some ⟨b, o, none⟩) n cap))
  | one (t : D) (b o : Nat) (v : Value) (hna : t.isAgg = false) (hA : A b o) (hc : w.cell? ⟨b, o, none⟩ = some v) (h1 : v.oneCell' = true)
      (h : RdD A w t (.val v)) : RdD A w t (.at_ b o 1)
  | aggAt (cs : List D) (b o : Nat) (hna : ∀ (j : Nat) t, cs[j]? = some t → t.isAgg = false)
      (h : ∀ (j : Nat) t, cs[j]? = some t → RdD A w t (.at_ b (o + j) 1)) : RdD A w (.agg cs) (.at_ b o cs.length)

theorem RdD.mono {A A' : Nat → Nat → Prop} {w w' : World} (hA : ∀ b o, A b o → A' b o)
    (hc : ∀ b o, A b o → w'.cell? ⟨b, o, none⟩ = w.cell? ⟨b, o, none⟩) {t : D} {x : Tgt} (h : RdD A w t x) : RdD A' w' t x := by
  induction h with
  | lit v => exact .lit v
  | agg cs vs hl _ ih => exact .agg cs vs hl ih
  | nil s a cap => exact .nil s a cap
  | sl s xs b o n cap hn hcc hm _ ih => exact .sl s xs b o n cap hn hcc hm ih
  | one t b o v hna hA' hcell h1 _ ih => exact .one t b o v hna (hA _ _ hA') ((hc _ _ hA').trans hcell) h1 ih
  | aggAt cs b o hna _ ih => exact .aggAt cs b o hna ih

/-- May a slice be appended to in place? 'full': its capacity is its length; 'own k': it ends where the row k ends. -/
inductive Tag where
  | none
  | full
  | own (k : Nat)
deriving DecidableEq, Inhabited

/-- A temporary's value. -/
inductive TV where
  | lit (v : Value)
  | sl (g : Tag) (s : Nat) (xs : List D)
  | vs (id off s len : Nat)
  | ptr (id off : Nat)
  | eptr (s : Nat) (d : D)
  | mp (id : Nat)
  | fn (f : Fn) (first cap : List TV)
  | agg (cs : List TV)
  | tup (ts : List TV)
  | unk
deriving Inhabited

/-- What only the proof knows: the cells that never change any more, and where each object lies (its block; a row's end). -/
structure Cx where
  A : Nat → Nat → Prop
  γ : Nat → Option (Nat × Nat × Nat)
  n : Nat

def TagOk (c : Cx) (s : Nat) : Tag → Value → Prop
  | .none, _ => True
  | .full, .slice _ n cap => cap = n
  | .own k, .slice a n cap => k < c.n ∧ (cap = n ∨ ∃ b o e z, a = some ⟨b, o, none⟩ ∧ c.γ k = some (b, e, z) ∧ o + n * s = e ∧ o + cap * s ≤ z)
  | _, _ => False

inductive RdT (c : Cx) (w : World) : TV → Value → Prop
  | lit (v : Value) : RdT c w (.lit v) v
  | sl (g : Tag) (s : Nat) (xs : List D) (v : Value) (h : RdD c.A w (.sl s xs) (.val v)) (hg : TagOk c s g v) : RdT c w (.sl g s xs) v
  | vs (id off s len cap b : Nat) (e : Nat × Nat) (hγ : c.γ id = some (b, e)) (hc : len ≤ cap) (hz : e.1 + off + cap * s ≤ e.2) : RdT c w (.vs id off s len) (.slice (some ⟨b, e.1 + off, none⟩) len cap)
  | vsN (id off s : Nat) (a : Option Addr) (hn : id < c.n) : RdT c w (.vs id off s 0) (.slice a 0 0)
  | ptr (id off b : Nat) (e : Nat × Nat) (hγ : c.γ id = some (b, e)) : RdT c w (.ptr id off) (.pointer (some ⟨b, e.1 + off, none⟩))
  | eptr (s : Nat) (d : D) (b o : Nat) (h : RdD c.A w d (.at_ b o s)) : RdT c w (.eptr s d) (.pointer (some ⟨b, o, none⟩))
  | mp (id b : Nat) (e : Nat × Nat) (hγ : c.γ id = some (b, e)) : RdT c w (.mp id) (.map (some b))
  | fn (f : Fn) (first cap : List TV) (vs ws : Array Value) (h1 : vs.size = first.length) (h2 : ws.size = cap.length)
      (h3 : ∀ (j : Nat) t v, first[j]? = some t → vs[j]? = some v → RdT c w t v)
      (h4 : ∀ (j : Nat) t v, cap[j]? = some t → ws[j]? = some v → RdT c w t v) : RdT c w (.fn f first cap) (.func f vs ws)
  | agg (cs : List TV) (vs : Array Value) (hl : vs.size = cs.length)
      (h : ∀ (j : Nat) t v, cs[j]? = some t → vs[j]? = some v → RdT c w t v) : RdT c w (.agg cs) (.agg vs)
  | tup (cs : List TV) (vs : Array Value) (hl : vs.size = cs.length)
      (h : ∀ (j : Nat) t v, cs[j]? = some t → vs[j]? = some v → RdT c w t v) : RdT c w (.tup cs) (.tuple vs)
  | unk (v : Value) : RdT c w .unk v

/-- One step on: more cells are fixed, those that were are as they were; objects lie where they lay. -/
structure Mono (c : Cx) (w : World) (c' : Cx) (w' : World) : Prop where
  A : ∀ b o, c.A b o → c'.A b o
  cell : ∀ b o, c.A b o → w'.cell? ⟨b, o, none⟩ = w.cell? ⟨b, o, none⟩
  γ : ∀ id x, c.γ id = some x → c'.γ id = some x
  n : c.n ≤ c'.n

theorem Mono.refl (c : Cx) (w : World) : Mono c w c w := ⟨fun _ _ h => h, fun _ _ _ => rfl, fun _ _ h => h, Nat.le_refl _⟩
theorem Mono.trans {c c1 c2 : Cx} {w w1 w2 : World} (h : Mono c w c1 w1) (k : Mono c1 w1 c2 w2) : Mono c w c2 w2 :=
  ⟨fun b o x => k.A _ _ (h.A _ _ x), fun b o x => (k.cell _ _ (h.A _ _ x)).trans (h.cell _ _ x), fun id x hx => k.γ _ _ (h.γ _ _ hx), Nat.le_trans h.n k.n⟩

theorem TagOk.mono {c c' : Cx} (hγ : ∀ id x, c.γ id = some x → c'.γ id = some x) (hn : c.n ≤ c'.n) {s : Nat} {g : Tag} {v : Value} (h : TagOk c s g v) : TagOk c' s g v := by
  cases g with
  | none => trivial
  | full => cases v <;> exact h
  | own k =>
    cases v with
    | slice a n cap =>
      obtain ⟨h0, h⟩ := h
      refine ⟨by omega, ?_⟩
      rcases h with h | ⟨b, o, e, z, h1, h2, h3⟩
      · exact .inl h
      · exact .inr ⟨b, o, e, z, h1, hγ _ _ h2, h3⟩
    | _ => exact h

theorem RdD.step {c c' : Cx} {w w' : World} (m : Mono c w c' w') {t : D} {x : Tgt} (h : RdD c.A w t x) : RdD c'.A w' t x := h.mono m.A m.cell

theorem RdT.step {c c' : Cx} {w w' : World} (m : Mono c w c' w') {t : TV} {v : Value} (h : RdT c w t v) : RdT c' w' t v := by
  induction h with
  | lit v => exact .lit v
  | sl g s xs v h hg => exact .sl g s xs v (h.step m) (hg.mono m.γ m.n)
  | vs id off s len cap b e hγ hc hz => exact .vs id off s len cap b e (m.γ _ _ hγ) hc hz
  | vsN id off s a hn => exact .vsN id off s a (Nat.lt_of_lt_of_le hn m.n)
  | ptr id off b e hγ => exact .ptr id off b e (m.γ _ _ hγ)
  | eptr s d b o h => exact .eptr s d b o (h.step m)
  | mp id b e hγ => exact .mp id b e (m.γ _ _ hγ)
  | fn f first cap vs ws h1 h2 _ _ ih3 ih4 => exact .fn f first cap vs ws h1 h2 ih3 ih4
  | agg cs vs hl _ ih => exact .agg cs vs hl ih
  | tup cs vs hl _ ih => exact .tup cs vs hl ih
  | unk v => exact .unk v

/-- An object: cells (of a block of this element type: the first ones), a map's entries, a row that may be appended to, one that is gone. -/
inductive TObj where
  | gone
  | lin
  | cells (e : TypeId) (cs : List TV)
  | map (es : List (Value × TV))
deriving Inhabited

structure TS where
  objs : Nat → TObj
  n : Nat

def TS.set (S : TS) (id : Nat) (o : TObj) : TS := { S with objs := fun i => if i = id then o else S.objs i }
def TS.push (S : TS) (o : TObj) : TS := { objs := fun i => if i = S.n then o else S.objs i, n := S.n + 1 }

/-- What holds of one object. -/
def ObjOk (w0 : World) (c : Cx) (w : World) (id : Nat) : TObj → Prop
  | .gone => True
  | .lin => ∀ b e, c.γ id = some (b, e) → w0.heap.size ≤ b ∧ (∃ cs t fr, w.heap[b]? = some (.cells cs t fr) ∧ e.2 ≤ cs.size) ∧
      (∀ j, e.1 ≤ j → j < e.2 → w.frozen? ⟨b, j, none⟩ = false) ∧ ∀ j, e.1 ≤ j → ¬ c.A b j
  | .cells t cs => (c.γ id = none → cs = []) ∧ ∀ b e, c.γ id = some (b, e) → w0.heap.size ≤ b ∧ (∃ arr fr, w.heap[b]? = some (.cells arr t fr) ∧ arr.size = e.2 ∧ e.1 + cs.length ≤ e.2) ∧
      (∀ j, w.frozen? ⟨b, j, none⟩ = false) ∧
      (∀ (j : Nat) x, cs[j]? = some x → ∃ v, w.cell? ⟨b, e.1 + j, none⟩ = some v ∧ RdT c w x v) ∧ ∀ j, ¬ c.A b j
  | .map es => ∃ b e, c.γ id = some (b, e) ∧ w0.heap.size ≤ b ∧ ∃ ents clock, w.heap[b]? = some (.map ents clock) ∧ ents.size = es.length ∧
      ∀ (j : Nat) x m, es[j]? = some x → ents[j]? = some m → m.key = x.1 ∧ RdT c w x.2 m.val

def TObj.live : TObj → Bool
  | .gone => false
  | _ => true

/-- The whole: the abstract state S is what the world w holds; below w0's heap nothing has changed since w0. -/
structure Rel (w0 : World) (c : Cx) (S : TS) (w : World) : Prop where
  below : Below w0.heap.size w0 w
  dom : ∀ id x, c.γ id = some x → id < S.n
  obj : ∀ id, id < S.n → ObjOk w0 c w id (S.objs id)
  inj : ∀ i j b e e', i < S.n → j < S.n → (S.objs i).live = true → (S.objs j).live = true → c.γ i = some (b, e) → c.γ j = some (b, e') → i = j
  cell : ∀ b o, c.A b o → ∃ v, w.cell? ⟨b, o, none⟩ = some v
  wf : ∀ id, S.n ≤ id → S.objs id = .gone
  cn : c.n = S.n

theorem Rel.live_lt {w0 : World} {c : Cx} {S : TS} {w : World} (h : Rel w0 c S w) {id : Nat} (hl : (S.objs id).live = true) : id < S.n := by
  rcases Nat.lt_or_ge id S.n with h1 | h1
  · exact h1
  · rw [h.wf id h1] at hl; cases hl
theorem Rel.le {w0 : World} {c : Cx} {S : TS} {w : World} (h : Rel w0 c S w) : w0.heap.size ≤ w.heap.size := h.below.size
theorem Rel.alt {w0 : World} {c : Cx} {S : TS} {w : World} (h : Rel w0 c S w) {b o : Nat} (ha : c.A b o) : b < w.heap.size := by
  obtain ⟨v, hv⟩ := h.cell b o ha
  exact World.block_lt_of_cell? w _ hv
end Go.Proofs.YteafcknljhglkaaDoor.TL
