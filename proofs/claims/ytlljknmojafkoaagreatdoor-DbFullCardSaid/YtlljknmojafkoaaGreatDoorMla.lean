/-
  Lemmas of the claim, part 1: TlA TlB TlC TlD TlE TlF TlG TlH TlI TlJ TlK TlL TlLa TlLb TlLc.
-/
import Derived.WalkKit
import Derived.KernelRfl
import Derived.Deep.LoopGhost
import Derived.Lib.ConvBytes
import Derived.Laws.IdiomCopy
import Derived.Laws.MakeOwn
import Derived.Laws.BytesArg
import Derived.MapKept
import Derived.WalkSpells
import Derived.LaidEqlPtr
import Derived.Lib.Builder
import Derived.Lib.UnsafeStr
set_option linter.unusedVariables false
set_option linter.unusedSimpArgs false
namespace Go.Proofs.YtlljknmojafkoaaGreatDoor.TL
open Go.RowKit
/-- Pure data: a scalar, a slice's elements (each of so many cells), a struct's or an array's cells. -/
inductive D where
  | lit (v : Value)
  | sl (s : Nat) (xs : List D)
  | agg (cs : List D)
deriving Inhabited
def D.isAgg : D → Bool
  | .agg _ => true
  | _ => false
/-- How many elements a slice may have at the most. -/
abbrev LIM : Nat := 140737488355328
inductive Tgt where
  | val (v : Value)
  | at_ (b o s : Nat)
/-- A datum is read off a value, or off so many cells at a place; all cells that are read are of the set A. -/
inductive RdD (A : Nat → Nat → Prop) (w : World) : D → Tgt → Prop
  | lit (v : Value) : RdD A w (.lit v) (.val v)
  | agg (cs : List D) (vs : Array Value) (hl : vs.size = cs.length)
      (h : ∀ (j : Nat) t v, cs[j]? = some t → vs[j]? = some v → RdD A w t (.val v)) : RdD A w (.agg cs) (.val (.agg vs))
  | nil (s : Nat) (a : Option Addr) (cap : Nat) : RdD A w (.sl s []) (.val (.slice a 0 cap))
  | sl (s : Nat) (xs : List D) (b o n cap : Nat) (hn : xs.length = n) (hc : n ≤ cap) (hm : n ≤ LIM)
      (h : ∀ (i : Nat) t, xs[i]? = some t → RdD A w t (.at_ b (o + i * s) s)) : RdD A w (.sl s xs) (.val (.slice (some ⟨b, o, none⟩) n cap))
  | one (t : D) (b o : Nat) (v : Value) (hna : t.isAgg = false) (hA : A b o) (hc : w.cell? ⟨b, o, none⟩ = some v) (h1 : v.oneCell' = true)
      (h : RdD A w t (.val v)) : RdD A w t (.at_ b o 1)
  | aggAt (cs : List D) (b o : Nat) (hna : ∀ (j : Nat) t, cs[j]? = some t → t.isAgg = false)
      (h : ∀ (j : Nat) t, cs[j]? = some t → RdD A w t (.at_ b (o + j) 1)) : RdD A w (.agg cs) (.at_ b o cs.length)
theorem RdD.mono {A A' : Nat → Nat → Prop} {w w' : World} (hA : ∀ b o, A b o → A' b o)
    (hc : ∀ b o, A b o → w'.cell? ⟨b, o, none⟩ = w.cell? ⟨b, o, none⟩) {t : D} {x : Tgt} (h : RdD A w t x) : RdD A' w' t x := by
  induction h with
  | lit v => exact .lit v
  | agg cs vs hl _ ih => exact .agg cs vs hl ih
  | nil s a cap => exact .nil s a cap
  | sl s xs b o n cap hn hcc hm _ ih => exact .sl s xs b o n cap hn hcc hm ih
  | one t b o v hna hA' hcell h1 _ ih => exact .one t b o v hna (hA _ _ hA') ((hc _ _ hA').trans hcell) h1 ih
  | aggAt cs b o hna _ ih => exact .aggAt cs b o hna ih
/-- May a slice be appended to in place? 'full': its capacity is its length; 'own k': it ends where the row k ends. -/
inductive Tag where
  | none
  | full
  | own (k : Nat)
deriving DecidableEq, Inhabited
/-- A temporary's value. -/
inductive TV where
  | lit (v : Value)
  | sl (g : Tag) (s : Nat) (xs : List D)
  | vs (id off s len : Nat)
  | ptr (id off : Nat)
  | eptr (s : Nat) (d : D)
  | mp (id : Nat)
  | fn (f : Fn) (first cap : List TV)
  | agg (cs : List TV)
  | tup (ts : List TV)
  | unk
deriving Inhabited
/-- What only the proof knows: the cells that never change any more, and where each object lies (its block; a row's end). -/
structure Cx where
  A : Nat → Nat → Prop
  γ : Nat → Option (Nat × Nat × Nat)
  n : Nat
def TagOk (c : Cx) (s : Nat) : Tag → Value → Prop
  | .none, _ => True
  | .full, .slice _ n cap => cap = n
  | .own k, .slice a n cap => k < c.n ∧ (cap = n ∨ ∃ b o e z, a = some ⟨b, o, none⟩ ∧ c.γ k = some (b, e, z) ∧ o + n * s = e ∧ o + cap * s ≤ z)
  | _, _ => False
inductive RdT (c : Cx) (w : World) : TV → Value → Prop
  | lit (v : Value) : RdT c w (.lit v) v
  | sl (g : Tag) (s : Nat) (xs : List D) (v : Value) (h : RdD c.A w (.sl s xs) (.val v)) (hg : TagOk c s g v) : RdT c w (.sl g s xs) v
  | vs (id off s len cap b : Nat) (e : Nat × Nat) (hγ : c.γ id = some (b, e)) (hc : len ≤ cap) (hz : e.1 + off + cap * s ≤ e.2) : RdT c w (.vs id off s len) (.slice (some ⟨b, e.1 + off, none⟩) len cap)
  | vsN (id off s : Nat) (a : Option Addr) (hn : id < c.n) : RdT c w (.vs id off s 0) (.slice a 0 0)
  | ptr (id off b : Nat) (e : Nat × Nat) (hγ : c.γ id = some (b, e)) : RdT c w (.ptr id off) (.pointer (some ⟨b, e.1 + off, none⟩))
  | eptr (s : Nat) (d : D) (b o : Nat) (h : RdD c.A w d (.at_ b o s)) : RdT c w (.eptr s d) (.pointer (some ⟨b, o, none⟩))
  | mp (id b : Nat) (e : Nat × Nat) (hγ : c.γ id = some (b, e)) : RdT c w (.mp id) (.map (some b))
  | fn (f : Fn) (first cap : List TV) (vs ws : Array Value) (h1 : vs.size = first.length) (h2 : ws.size = cap.length)
      (h3 : ∀ (j : Nat) t v, first[j]? = some t → vs[j]? = some v → RdT c w t v)
      (h4 : ∀ (j : Nat) t v, cap[j]? = some t → ws[j]? = some v → RdT c w t v) : RdT c w (.fn f first cap) (.func f vs ws)
  | agg (cs : List TV) (vs : Array Value) (hl : vs.size = cs.length)
      (h : ∀ (j : Nat) t v, cs[j]? = some t → vs[j]? = some v → RdT c w t v) : RdT c w (.agg cs) (.agg vs)
  | tup (cs : List TV) (vs : Array Value) (hl : vs.size = cs.length)
      (h : ∀ (j : Nat) t v, cs[j]? = some t → vs[j]? = some v → RdT c w t v) : RdT c w (.tup cs) (.tuple vs)
  | unk (v : Value) : RdT c w .unk v
/-- One step on: more cells are fixed, those that were are as they were; objects lie where they lay. -/
structure Mono (c : Cx) (w : World) (c' : Cx) (w' : World) : Prop where
  A : ∀ b o, c.A b o → c'.A b o
  cell : ∀ b o, c.A b o → w'.cell? ⟨b, o, none⟩ = w.cell? ⟨b, o, none⟩
  γ : ∀ id x, c.γ id = some x → c'.γ id = some x
  n : c.n ≤ c'.n
theorem Mono.refl (c : Cx) (w : World) : Mono c w c w := ⟨fun _ _ h => h, fun _ _ _ => rfl, fun _ _ h => h, Nat.le_refl _⟩
theorem Mono.trans {c c1 c2 : Cx} {w w1 w2 : World} (h : Mono c w c1 w1) (k : Mono c1 w1 c2 w2) : Mono c w c2 w2 :=
  ⟨fun b o x => k.A _ _ (h.A _ _ x), fun b o x => (k.cell _ _ (h.A _ _ x)).trans (h.cell _ _ x), fun id x hx => k.γ _ _ (h.γ _ _ hx), Nat.le_trans h.n k.n⟩
theorem TagOk.mono {c c' : Cx} (hγ : ∀ id x, c.γ id = some x → c'.γ id = some x) (hn : c.n ≤ c'.n) {s : Nat} {g : Tag} {v : Value} (h : TagOk c s g v) : TagOk c' s g v := by
  cases g with
  | none => trivial
  | full => cases v <;> exact h
  | own k =>
    cases v with
    | slice a n cap =>
      obtain ⟨h0, h⟩ := h
      refine ⟨by omega, ?_⟩
      rcases h with h | ⟨b, o, e, z, h1, h2, h3⟩
      · exact .inl h
      · exact .inr ⟨b, o, e, z, h1, hγ _ _ h2, h3⟩
    | _ => exact h
theorem RdD.step {c c' : Cx} {w w' : World} (m : Mono c w c' w') {t : D} {x : Tgt} (h : RdD c.A w t x) : RdD c'.A w' t x := h.mono m.A m.cell
theorem RdT.step {c c' : Cx} {w w' : World} (m : Mono c w c' w') {t : TV} {v : Value} (h : RdT c w t v) : RdT c' w' t v := by
  induction h with
  | lit v => exact .lit v
  | sl g s xs v h hg => exact .sl g s xs v (h.step m) (hg.mono m.γ m.n)
  | vs id off s len cap b e hγ hc hz => exact .vs id off s len cap b e (m.γ _ _ hγ) hc hz
  | vsN id off s a hn => exact .vsN id off s a (Nat.lt_of_lt_of_le hn m.n)
  | ptr id off b e hγ => exact .ptr id off b e (m.γ _ _ hγ)
  | eptr s d b o h => exact .eptr s d b o (h.step m)
  | mp id b e hγ => exact .mp id b e (m.γ _ _ hγ)
  | fn f first cap vs ws h1 h2 _ _ ih3 ih4 => exact .fn f first cap vs ws h1 h2 ih3 ih4
  | agg cs vs hl _ ih => exact .agg cs vs hl ih
  | tup cs vs hl _ ih => exact .tup cs vs hl ih
  | unk v => exact .unk v
/-- An object: cells (of a block of this element type: the first ones), a map's entries, a row that may be appended to, one that is gone. -/
inductive TObj where
  | gone
  | lin
  | cells (e : TypeId) (cs : List TV)
  | map (es : List (Value × Nat × TV)) (clock : Nat)
  | iter (m : Option Nat) (since : Nat) (seen : List Nat) (last : Nat)
deriving Inhabited
structure TS where
  objs : Nat → TObj
  n : Nat
def TS.set (S : TS) (id : Nat) (o : TObj) : TS := { S with objs := fun i => if i = id then o else S.objs i }
def TS.push (S : TS) (o : TObj) : TS := { objs := fun i => if i = S.n then o else S.objs i, n := S.n + 1 }
/-- What holds of one object. -/
def ObjOk (w0 : World) (c : Cx) (w : World) (id : Nat) : TObj → Prop
  | .gone => True
  | .lin => ∀ b e, c.γ id = some (b, e) → w0.heap.size ≤ b ∧ (∃ cs t fr, w.heap[b]? = some (.cells cs t fr) ∧ e.2 ≤ cs.size) ∧
      (∀ j, e.1 ≤ j → j < e.2 → w.frozen? ⟨b, j, none⟩ = false) ∧ ∀ j, e.1 ≤ j → ¬ c.A b j
  | .cells t cs => (c.γ id = none → cs = []) ∧ ∀ b e, c.γ id = some (b, e) → w0.heap.size ≤ b ∧ (∃ arr fr, w.heap[b]? = some (.cells arr t fr) ∧ arr.size = e.2 ∧ e.1 + cs.length ≤ e.2 ∧ e.1 = 0) ∧
      (∀ j, j < e.2 → w.frozen? ⟨b, j, none⟩ = false) ∧
      (∀ (j : Nat) x, cs[j]? = some x → ∃ v, w.cell? ⟨b, e.1 + j, none⟩ = some v ∧ RdT c w x v) ∧ ∀ j, ¬ c.A b j
  | .map es clock => ∃ b e, c.γ id = some (b, e) ∧ w0.heap.size ≤ b ∧ ∃ ents, w.heap[b]? = some (.map ents clock) ∧ ents.size = es.length ∧
      ∀ (j : Nat) x m, es[j]? = some x → ents[j]? = some m → m.key = x.1 ∧ m.born = x.2.1 ∧ RdT c w x.2.2 m.val
  | .iter m since seen last => ∃ b e r, c.γ id = some (b, e) ∧ e.1 = 0 ∧ w0.heap.size ≤ b ∧ w.heap[b]? = some (.mapIter r since seen.toArray last) ∧
      (match m with | none => r = none | some k => ∃ b2 e2, r = some b2 ∧ c.γ k = some (b2, e2))
def TObj.live : TObj → Bool
  | .gone => false
  | _ => true
/-- The whole: the abstract state S is what the world w holds; below w0's heap nothing has changed since w0. -/
structure Rel (w0 : World) (c : Cx) (S : TS) (w : World) : Prop where
  below : Below w0.heap.size w0 w
  dom : ∀ id x, c.γ id = some x → id < S.n
  obj : ∀ id, id < S.n → ObjOk w0 c w id (S.objs id)
  inj : ∀ i j b e e', i < S.n → j < S.n → (S.objs i).live = true → (S.objs j).live = true → c.γ i = some (b, e) → c.γ j = some (b, e') → i = j
  cell : ∀ b o, c.A b o → ∃ v, w.cell? ⟨b, o, none⟩ = some v
  wf : ∀ id, S.n ≤ id → S.objs id = .gone
  cn : c.n = S.n
theorem Rel.live_lt {w0 : World} {c : Cx} {S : TS} {w : World} (h : Rel w0 c S w) {id : Nat} (hl : (S.objs id).live = true) : id < S.n := by
  rcases Nat.lt_or_ge id S.n with h1 | h1
  · exact h1
  · rw [h.wf id h1] at hl; cases hl
theorem Rel.le {w0 : World} {c : Cx} {S : TS} {w : World} (h : Rel w0 c S w) : w0.heap.size ≤ w.heap.size := h.below.size
theorem Rel.alt {w0 : World} {c : Cx} {S : TS} {w : World} (h : Rel w0 c S w) {b o : Nat} (ha : c.A b o) : b < w.heap.size := by
  obtain ⟨v, hv⟩ := h.cell b o ha
  exact World.block_lt_of_cell? w _ hv
end Go.Proofs.YtlljknmojafkoaaGreatDoor.TL
namespace Go.Proofs.YtlljknmojafkoaaGreatDoor.TL
open Go.RowKit
@[simp] theorem TS.set_n (S : TS) (id : Nat) (o : TObj) : (S.set id o).n = S.n := rfl
@[simp] theorem TS.push_n (S : TS) (o : TObj) : (S.push o).n = S.n + 1 := rfl
theorem TS.set_objs (S : TS) (id : Nat) (o : TObj) (i : Nat) : (S.set id o).objs i = if i = id then o else S.objs i := rfl
theorem TS.push_objs (S : TS) (o : TObj) (i : Nat) : (S.push o).objs i = if i = S.n then o else S.objs i := rfl
/-- An object whose block hasn't been touched. -/
theorem ObjOk.keep {w0 : World} {c c' : Cx} {w w' : World} {id : Nat} {o : TObj} (h : ObjOk w0 c w id o) (m : Mono c w c' w')
    (hγ : c'.γ id = c.γ id) (hb : o.live = true → ∀ b e, c.γ id = some (b, e) → w'.heap[b]? = w.heap[b]? ∧ ∀ j, c'.A b j → c.A b j) : ObjOk w0 c' w' id o := by
  cases o with
  | gone => trivial
  | lin =>
    intro b e hbe
    rw [hγ] at hbe
    obtain ⟨h1, ⟨cs, t, fr, h2, hz⟩, h3, h4⟩ := h b e hbe
    obtain ⟨k1, k2⟩ := hb rfl b e hbe
    refine ⟨h1, ⟨cs, t, fr, by rw [k1, h2], hz⟩, fun j hj hj2 => ?_, fun j hj ha => h4 j hj (k2 j ha)⟩
    rw [World.frozen?_of_block (w := w) (w' := w') (a := ⟨b, j, none⟩) k1]; exact h3 j hj hj2
  | cells t cs =>
    refine ⟨fun hn => h.1 (by rw [← hγ]; exact hn), fun b e h1 => ?_⟩
    rw [hγ] at h1
    obtain ⟨h2, ⟨arr, fr, h3, hz⟩, hf, h4, h5⟩ := h.2 b e h1
    obtain ⟨k1, k2⟩ := hb rfl b e h1
    refine ⟨h2, ⟨arr, fr, k1.trans h3, hz⟩, fun j => by rw [World.frozen?_of_block (w := w) (w' := w') (a := ⟨b, j, none⟩) k1]; exact hf j, fun j x hx => ?_, fun j ha => h5 j (k2 j ha)⟩
    obtain ⟨v, p, r⟩ := h4 j x hx
    exact ⟨v, by rw [World.cell?_of_block (w := w) (w' := w') (a := ⟨b, e.1 + j, none⟩) k1]; exact p, r.step m⟩
  | map es clock =>
    obtain ⟨b, e, h1, h2, ents, h3, h4, h5⟩ := h
    obtain ⟨k1, _⟩ := hb rfl b e h1
    exact ⟨b, e, hγ.trans h1, h2, ents, k1.trans h3, h4, fun j x mm hx hm => ⟨(h5 j x mm hx hm).1, (h5 j x mm hx hm).2.1, (h5 j x mm hx hm).2.2.step m⟩⟩
  | iter mm since seen last =>
    obtain ⟨b, e, r, h1, h0, h2, h3, h4⟩ := h
    obtain ⟨k1, _⟩ := hb rfl b e h1
    refine ⟨b, e, r, hγ.trans h1, h0, h2, k1.trans h3, ?_⟩
    cases mm with
    | none => exact h4
    | some k =>
      obtain ⟨b2, e2, h5, h6⟩ := h4
      exact ⟨b2, e2, h5, m.γ _ _ h6⟩
/-- A draw changes nothing. -/
theorem Rel.drew {w0 : World} {c : Cx} {S : TS} {w : World} (h : Rel w0 c S w) : Rel w0 c S w.drew ∧ Mono c w c w.drew := by
  have m : Mono c w c w.drew := ⟨fun _ _ h => h, fun _ _ _ => rfl, fun _ _ h => h, Nat.le_refl _⟩
  exact ⟨⟨h.below.drew, h.dom, fun id hid => (h.obj id hid).keep m rfl (fun _ b e _ => ⟨rfl, fun _ h => h⟩), h.inj, h.cell, h.wf, h.cn⟩, m⟩
theorem Rel.fresh {w0 : World} {c : Cx} {S : TS} {w : World} (h : Rel w0 c S w) {id b : Nat} {e : Nat × Nat} (hid : c.γ id = some (b, e)) (hl : (S.objs id).live = true) : b < w.heap.size := by
  have hn := h.dom id _ hid
  have ho := h.obj id hn
  cases hobj : S.objs id with
  | gone => rw [hobj] at hl; cases hl
  | lin =>
    rw [hobj] at ho
    obtain ⟨_, ⟨cs, t, fr, hh, _⟩, _⟩ := ho b e hid
    exact (Array.getElem?_eq_some_iff.1 hh).1
  | cells t cs =>
    rw [hobj] at ho
    obtain ⟨_, ⟨arr, fr, hh, _⟩, _⟩ := ho.2 b e hid
    exact (Array.getElem?_eq_some_iff.1 hh).1
  | map es clock =>
    rw [hobj] at ho
    obtain ⟨b', e', h1, _, ents, hh, _⟩ := ho
    rw [hid] at h1
    injection h1 with h1; injection h1 with h1 _; subst h1
    exact (Array.getElem?_eq_some_iff.1 hh).1
  | iter mm since seen last =>
    rw [hobj] at ho
    obtain ⟨b', e', r, h1, _, _, hh, _⟩ := ho
    rw [hid] at h1
    injection h1 with h1; injection h1 with h1 _; subst h1
    exact (Array.getElem?_eq_some_iff.1 hh).1
/-- A new block that becomes object number S.n (cells, a map, a row), some of whose cells may be fixed at once. -/
theorem Rel.alloc {w0 : World} {c : Cx} {S : TS} {w : World} (h : Rel w0 c S w) (blk : Obj) (o : TObj) (e : Nat × Nat) (F : Nat → Prop)
    (hF : ∀ j, F j → ∃ v, (w.alloc blk).cell? ⟨w.heap.size, j, none⟩ = some v)
    (ho : ∀ c', Mono c w c' (w.alloc blk) → c'.γ S.n = some (w.heap.size, e) → (∀ j, c'.A w.heap.size j ↔ F j) → ObjOk w0 c' (w.alloc blk) S.n o) :
    ∃ c', Rel w0 c' (S.push o) (w.alloc blk) ∧ Mono c w c' (w.alloc blk) ∧ c'.γ S.n = some (w.heap.size, e) ∧ (∀ j, c'.A w.heap.size j ↔ F j) := by
  let c' : Cx := { A := fun b j => c.A b j ∨ (b = w.heap.size ∧ F j), γ := fun i => if i = S.n then some (w.heap.size, e) else c.γ i, n := S.n + 1 }
  have hlt : ∀ b j, c.A b j → b < w.heap.size := fun b j ha => h.alt ha
  have m : Mono c w c' (w.alloc blk) := by
    refine ⟨fun b j ha => .inl ha, fun b j ha => World.cell?_alloc_lt w blk ⟨b, j, none⟩ (hlt b j ha), fun id x hx => ?_, by have := h.cn; show c.n ≤ S.n + 1; omega⟩
    have := h.dom id x hx
    show (if id = S.n then _ else _) = _
    rw [if_neg (by omega)]; exact hx
  have hγ : c'.γ S.n = some (w.heap.size, e) := if_pos rfl
  have hAF : ∀ j, c'.A w.heap.size j ↔ F j := by
    intro j
    constructor
    · rintro (ha | ⟨_, hf⟩)
      · exact absurd (hlt _ _ ha) (by omega)
      · exact hf
    · exact fun hf => .inr ⟨rfl, hf⟩
  refine ⟨c', ⟨h.below.alloc h.le blk, ?_, ?_, ?_, ?_, fun id hid => by rw [TS.push_objs, if_neg (by have : S.n + 1 ≤ id := hid; omega)]; exact h.wf id (by have : S.n + 1 ≤ id := hid; omega), rfl⟩, m, hγ, hAF⟩
  · intro id x hx
    show id < S.n + 1
    by_cases hi : id = S.n
    · omega
    · have : c.γ id = some x := by simpa [c', hi] using hx
      have := h.dom id x this; omega
  · intro id hid
    rw [TS.push_objs]
    by_cases hi : id = S.n
    · rw [if_pos hi, hi]; exact ho c' m hγ hAF
    · rw [if_neg hi]
      have hid' : id < S.n := by have : id < S.n + 1 := hid; omega
      refine (h.obj id hid').keep m (by simp [c', hi]) ?_
      intro hl b e' hb
      have hbl := h.fresh hb hl
      refine ⟨Below.heap_alloc w blk b hbl, ?_⟩
      rintro j (ha | ⟨hb', _⟩)
      · exact ha
      · omega
  · intro i j b e1 e2 hi hj li lj gi gj
    rw [TS.push_objs] at li lj
    by_cases hi' : i = S.n
    · by_cases hj' : j = S.n
      · omega
      · rw [if_neg hj'] at lj
        have g1 : w.heap.size = b := by
          have : some (w.heap.size, e) = some (b, e1) := by rw [← gi, hi', hγ]
          injection this with this; injection this
        have gj' : c.γ j = some (b, e2) := by simpa [c', hj'] using gj
        have := h.fresh gj' lj
        omega
    · rw [if_neg hi'] at li
      have gi' : c.γ i = some (b, e1) := by simpa [c', hi'] using gi
      have hb := h.fresh gi' li
      by_cases hj' : j = S.n
      · have : some (w.heap.size, e) = some (b, e2) := by rw [← gj, hj', hγ]
        injection this with this; injection this with this _
        omega
      · rw [if_neg hj'] at lj
        have gj' : c.γ j = some (b, e2) := by simpa [c', hj'] using gj
        have hi2 : i < S.n + 1 := hi
        have hj2 : j < S.n + 1 := hj
        exact h.inj i j b e1 e2 (by omega) (by omega) li lj gi' gj'
  · rintro b j (ha | ⟨rfl, hf⟩)
    · obtain ⟨v, hv⟩ := h.cell b j ha
      exact ⟨v, (World.cell?_alloc_lt w blk ⟨b, j, none⟩ (hlt b j ha)).trans hv⟩
    · exact hF j hf
/-- A new block that is no object: cells that are fixed at once. -/
theorem Rel.allocFixed {w0 : World} {c : Cx} {S : TS} {w : World} (h : Rel w0 c S w) (blk : Obj) (F : Nat → Prop)
    (hF : ∀ j, F j → ∃ v, (w.alloc blk).cell? ⟨w.heap.size, j, none⟩ = some v) :
    ∃ c', Rel w0 c' S (w.alloc blk) ∧ Mono c w c' (w.alloc blk) ∧ (∀ j, c'.A w.heap.size j ↔ F j) ∧ c'.γ = c.γ := by
  let c' : Cx := { A := fun b j => c.A b j ∨ (b = w.heap.size ∧ F j), γ := c.γ, n := c.n }
  have hlt : ∀ b j, c.A b j → b < w.heap.size := fun b j ha => h.alt ha
  have m : Mono c w c' (w.alloc blk) :=
    ⟨fun b j ha => .inl ha, fun b j ha => World.cell?_alloc_lt w blk ⟨b, j, none⟩ (hlt b j ha), fun id x hx => hx, Nat.le_refl _⟩
  have hAF : ∀ j, c'.A w.heap.size j ↔ F j := by
    intro j
    constructor
    · rintro (ha | ⟨_, hf⟩)
      · exact absurd (hlt _ _ ha) (by omega)
      · exact hf
    · exact fun hf => .inr ⟨rfl, hf⟩
  refine ⟨c', ⟨h.below.alloc h.le blk, h.dom, ?_, h.inj, ?_, h.wf, h.cn⟩, m, hAF, rfl⟩
  · intro id hid
    refine (h.obj id hid).keep m rfl ?_
    intro hl b e' hb
    have hbl := h.fresh hb hl
    refine ⟨Below.heap_alloc w blk b hbl, ?_⟩
    rintro j (ha | ⟨hb', _⟩)
    · exact ha
    · omega
  · rintro b j (ha | ⟨rfl, hf⟩)
    · obtain ⟨v, hv⟩ := h.cell b j ha
      exact ⟨v, (World.cell?_alloc_lt w blk ⟨b, j, none⟩ (hlt b j ha)).trans hv⟩
    · exact hF j hf
/-- One object's block is changed (none of its fixed cells), and with it the object. -/
theorem Rel.change {w0 : World} {c : Cx} {S : TS} {w w' : World} (h : Rel w0 c S w) (id : Nat) (o : TObj) (b : Nat) (e : Nat × Nat)
    (hid : id < S.n) (hg : c.γ id = some (b, e)) (hl : (S.objs id).live = true) (hb : w0.heap.size ≤ b)
    (hs : w'.heap.size = w.heap.size) (hr : w'.os = w.os ∧ w'.tape = w.tape ∧ w'.output = w.output)
    (hw : ∀ k, k ≠ b → w'.heap[k]? = w.heap[k]?)
    (hA : ∀ j, c.A b j → w'.cell? ⟨b, j, none⟩ = w.cell? ⟨b, j, none⟩)
    (ho : Mono c w c w' → ObjOk w0 c w' id o) : Rel w0 c (S.set id o) w' ∧ Mono c w c w' := by
  have m : Mono c w c w' := by
    refine ⟨fun _ _ h => h, fun b' j ha => ?_, fun _ _ h => h, Nat.le_refl _⟩
    by_cases hbb : b' = b
    · subst hbb; exact hA j ha
    · exact World.cell?_of_block (w := w) (w' := w') (a := ⟨b', j, none⟩) (hw b' hbb)
  refine ⟨⟨?_, h.dom, ?_, ?_, ?_, fun i hi => by rw [TS.set_objs, if_neg (by have : S.n ≤ i := hi; omega)]; exact h.wf i hi, h.cn⟩, m⟩
  · exact h.below.trans ⟨hr.1, hr.2.1, hr.2.2, by omega, fun k hk => hw k (by omega)⟩
  · intro i hi
    rw [TS.set_objs]
    by_cases hii : i = id
    · rw [if_pos hii, hii]; exact ho m
    · rw [if_neg hii]
      refine (h.obj i hi).keep m rfl ?_
      intro hli b' e' hb'
      refine ⟨hw b' ?_, fun _ h => h⟩
      intro hbb
      subst hbb
      exact hii (h.inj i id b' e' e hi hid hli hl hb' hg)
  · intro i j b1 e1 e2 hi hj li lj gi gj
    rw [TS.set_objs] at li lj
    refine h.inj i j b1 e1 e2 hi hj ?_ ?_ gi gj
    · by_cases hii : i = id
      · rw [hii]; exact hl
      · rw [if_neg hii] at li; exact li
    · by_cases hjj : j = id
      · rw [hjj]; exact hl
      · rw [if_neg hjj] at lj; exact lj
  · intro b' j ha
    obtain ⟨v, hv⟩ := h.cell b' j ha
    exact ⟨v, (m.cell b' j ha).trans hv⟩
theorem Rel.roomOf {w0 : World} {c : Cx} {S : TS} {w : World} (h : Rel w0 c S w) {id b t n : Nat} {e : Nat × Nat} {cs : List TV} (hobj : S.objs id = .cells t cs) (hγ : c.γ id = some (b, e)) (hn : n ≤ cs.length) : e.1 + n ≤ e.2 := by
  have hob := h.obj id (h.dom _ _ hγ)
  rw [hobj] at hob
  obtain ⟨_, ⟨arr, fr, g1, g2, g3⟩, _⟩ := hob.2 b e hγ
  omega
/-- An object is forgotten. -/
theorem Rel.drop {w0 : World} {c : Cx} {S : TS} {w : World} (h : Rel w0 c S w) (id : Nat) : Rel w0 c (S.set id .gone) w := by
  refine ⟨h.below, h.dom, ?_, ?_, h.cell, fun i hi => by
    rw [TS.set_objs]
    split
    · rfl
    · exact h.wf i hi, h.cn⟩
  · intro i hi
    rw [TS.set_objs]
    by_cases hii : i = id
    · rw [if_pos hii]; trivial
    · rw [if_neg hii]; exact h.obj i hi
  · intro i j b1 e1 e2 hi hj li lj gi gj
    rw [TS.set_objs] at li lj
    have hi' : i ≠ id := by intro hh; rw [if_pos hh] at li; cases li
    have hj' : j ≠ id := by intro hh; rw [if_pos hh] at lj; cases lj
    rw [if_neg hi'] at li
    rw [if_neg hj'] at lj
    exact h.inj i j b1 e1 e2 hi hj li lj gi gj
end Go.Proofs.YtlljknmojafkoaaGreatDoor.TL
namespace Go.Proofs.YtlljknmojafkoaaGreatDoor.TL
open Go.RowKit
structure Env where
  P : Program
  G : Nat → TV
  /-- Where a slice that is made may be written. -/
  wr : String → Bool := fun _ => false
structure Ok (E : Env) (w0 : World) (c : Cx) (S : TS) (w : World) : Prop where
  rel : Rel w0 c S w
  glob : ∀ g, RdT c w (E.G g) (.pointer (some ⟨g, 0, none⟩))
theorem Ok.step {E : Env} {w0 : World} {c c' : Cx} {S S' : TS} {w w' : World} (h : Ok E w0 c S w) (r : Rel w0 c' S' w') (m : Mono c w c' w') : Ok E w0 c' S' w' :=
  ⟨r, fun g => (h.glob g).step m⟩
def upd (T : Nat → TV) (i : Nat) (v : TV) : Nat → TV := fun j => if j = i then v else T j
def putT (T : Nat → TV) (dst : Option Nat) (v : TV) : Nat → TV :=
  match dst with
  | some d => upd T d v
  | none => T
def ofConst1 : Value → TV
  | .slice none 0 0 => .sl .full 0 []
  | v => .lit v
def ofConst : Value → TV
  | .agg vs => .agg (vs.toList.map ofConst1)
  | v => ofConst1 v
theorem rd_const1 (c : Cx) (w : World) (v : Value) : RdT c w (ofConst1 v) v := by
  unfold ofConst1
  split
  · exact .sl _ _ _ _ (.nil _ _ _) rfl
  · exact .lit _
theorem rd_const (c : Cx) (w : World) (v : Value) : RdT c w (ofConst v) v := by
  unfold ofConst
  split
  · rename_i vs
    refine .agg _ _ (by simp) fun j t v h1 h2 => ?_
    rw [List.getElem?_map, Array.getElem?_toList, h2] at h1
    simp only [Option.map_some, Option.some.injEq] at h1
    subst h1
    exact rd_const1 c w v
  · exact rd_const1 c w v
def evO (E : Env) (T : Nat → TV) : Operand → TV
  | .tmp t => T t
  | .const v => ofConst v
  | .global g => E.G g
  | .func f => .fn (.func f) [] []
/-- The temporaries read as T says. -/
def Tmps (c : Cx) (w : World) (T : Nat → TV) (a : Act) : Prop := ∀ i v, a.tmps[i]? = some v → RdT c w (T i) v
theorem Tmps.step {c c' : Cx} {w w' : World} {T : Nat → TV} {a : Act} (m : Mono c w c' w') (h : Tmps c w T a) : Tmps c' w' T a := fun i v hv => (h i v hv).step m
def inb (N : Nat) : Operand → Bool
  | .tmp t => decide (t < N)
  | _ => true
/-- The operation's operands read as T says. -/
def Opn (E : Env) (c : Cx) (w : World) (T : Nat → TV) (a : Act) (o : Op) : Prop := ∀ x, x ∈ o.operands.toList → RdT c w (evO E T x) (a.eval x)
theorem evO_ok {E : Env} {w0 : World} {c : Cx} {S : TS} {w : World} {T : Nat → TV} {a : Act} (h : Ok E w0 c S w) (ht : Tmps c w T a) (x : Operand) (hb : inb a.tmps.size x = true) : RdT c w (evO E T x) (a.eval x) := by
  cases x with
  | tmp t =>
    have hlt : t < a.tmps.size := by simpa [inb] using hb
    have : a.tmps[t]? = some (a.tmps.getD t undef) := by simp [Array.getElem?_eq_getElem hlt, Array.getD_eq_getD_getElem?]
    exact ht t _ this
  | const v => exact rd_const c w v
  | global g => exact h.glob g
  | func f => exact .fn _ _ _ _ _ rfl rfl (fun j t v h _ => by simp at h) (fun j t v h _ => by simp at h)
theorem opn_of {E : Env} {w0 : World} {c : Cx} {S : TS} {w : World} {T : Nat → TV} {a : Act} (h : Ok E w0 c S w) (ht : Tmps c w T a) (o : Op) (hb : o.operands.toList.all (inb a.tmps.size) = true) : Opn E c w T a o :=
  fun x hx => evO_ok h ht x (List.all_eq_true.1 hb x hx)
/-! ### types -/
structure TI where
  desc : TypeDesc
  size : Nat
  bytes : Nat
  zero : Value
def tiOf (P : Program) (t : TypeId) : Option TI :=
  match P.info? t, P.underlying t with
  | some i, some d => i.zero.map fun z => ⟨d, i.size, i.bytes, z⟩
  | _, _ => none
structure TyIs (P : Program) (t : TypeId) (i : TI) : Prop where
  und : P.underlying t = some i.desc
  inf : ∃ x, P.info? t = some x ∧ x.size = i.size ∧ x.bytes = i.bytes ∧ x.zero = some i.zero
theorem tyIs {P : Program} {t : TypeId} {i : TI} (h : tiOf P t = some i) : TyIs P t i := by
  unfold tiOf at h
  split at h
  · rename_i x d h1 h2
    obtain ⟨z, hz, rfl⟩ := Option.map_eq_some_iff.1 h
    exact ⟨h2, x, h1, rfl, rfl, hz⟩
  · cases h
def isAggD : TypeDesc → Bool
  | .struct _ | .array _ _ => true
  | _ => false
theorem run_typeInfo' {P : Program} {t : TypeId} {x : TypeInfo} (h : P.info? t = some x) (w : World) : (typeInfo t).run P w = .ok x w := by simp [typeInfo, h]
theorem TyIs.run_size {P : Program} {t : TypeId} {i : TI} (h : TyIs P t i) (w : World) : (sizeOf t).run P w = .ok i.size w := by
  obtain ⟨x, h1, h2, _⟩ := h.inf
  simp [sizeOf, run_typeInfo' h1, h2]
theorem TyIs.run_und {P : Program} {t : TypeId} {i : TI} (h : TyIs P t i) (w : World) : (underlying t).run P w = .ok i.desc w := run_underlying h.und w
theorem TyIs.run_isAgg {P : Program} {t : TypeId} {i : TI} (h : TyIs P t i) (w : World) : (isAgg t).run P w = .ok (isAggD i.desc) w := by
  unfold isAgg
  simp only [Sem.run_bind, h.run_und, Result.andThen_ok]
  cases i.desc <;> rfl
theorem TyIs.run_zero {P : Program} {t : TypeId} {i : TI} (h : TyIs P t i) (w : World) : (zeroValue t).run P w = .ok i.zero w := by
  obtain ⟨x, h1, _, _, h2⟩ := h.inf
  simp [zeroValue, run_typeInfo' h1, h2]
theorem addr_add (b o n : Nat) : (⟨b, o, none⟩ : Addr).add n = ⟨b, o + n, none⟩ := by unfold Addr.add; split <;> simp_all
theorem run_loadCellsFrom (P : Program) (w : World) (b o : Nat) : ∀ (n i : Nat) (f : Nat → Value) (acc : Array Value), (∀ j, j < n → w.cell? ⟨b, o + (i + j), none⟩ = some (f (i + j))) →
    (loadCellsFrom ⟨b, o, none⟩ i n acc).run P w = .ok (acc ++ ((List.range' i n).map f).toArray) w := by
  intro n
  induction n with
  | zero => intro i f acc _; simp [loadCellsFrom]
  | succ n ih =>
    intro i f acc h
    have h0 := h 0 (by omega)
    simp only [Nat.add_zero] at h0
    simp only [loadCellsFrom, Sem.run_bind, addr_add, run_load, h0, Result.andThen_ok]
    rw [ih (i + 1) f _ (fun j hj => by have := h (j + 1) (by omega); rw [show i + 1 + j = i + (j + 1) by omega]; exact this)]
    simp [List.range'_succ]
theorem run_loadCells (P : Program) (w : World) (b o n : Nat) (f : Nat → Value) (h : ∀ j, j < n → w.cell? ⟨b, o + j, none⟩ = some (f j)) :
    (loadCells ⟨b, o, none⟩ n).run P w = .ok ((List.range n).map f).toArray w := by
  unfold loadCells
  rw [run_loadCellsFrom P w b o n 0 f #[] (fun j hj => by simpa using h j hj)]
  simp [List.range_eq_range']
def ofD1 : D → TV
  | .lit v => .lit v
  | .sl s xs => .sl .none s xs
  | .agg _ => .unk
def ofD : D → TV
  | .agg cs => .agg (cs.map ofD1)
  | d => ofD1 d
theorem rd_ofD1 {c : Cx} {w : World} {d : D} {v : Value} (h : RdD c.A w d (.val v)) : RdT c w (ofD1 d) v := by
  cases d with
  | lit v' => cases h; exact .lit _
  | sl s xs => exact .sl _ _ _ _ h trivial
  | agg cs => exact .unk _
theorem rd_ofD {c : Cx} {w : World} {d : D} {v : Value} (h : RdD c.A w d (.val v)) : RdT c w (ofD d) v := by
  cases d with
  | lit v' => exact rd_ofD1 h
  | sl s xs => exact rd_ofD1 h
  | agg cs =>
    cases h with
    | agg _ vs hl hh =>
      refine .agg _ _ (by simpa using hl) fun j t v h1 h2 => ?_
      rw [List.getElem?_map] at h1
      obtain ⟨d, hd, rfl⟩ := Option.map_eq_some_iff.1 h1
      exact rd_ofD1 (hh j d v hd h2)
theorem RdD.cell_of {A : Nat → Nat → Prop} {w : World} {d : D} {b o s : Nat} (h : RdD A w d (.at_ b o s)) (hn : d.isAgg = false) : ∃ v, A b o ∧ w.cell? ⟨b, o, none⟩ = some v ∧ v.oneCell' = true ∧ RdD A w d (.val v) := by
  generalize hx : Tgt.at_ b o s = x at h
  cases h with
  | one _ _ _ v hna hA hc ho h => injection hx with h1 h2 h3; subst h1 h2; exact ⟨v, hA, hc, ho, h⟩
  | aggAt cs _ _ hna h => cases hn
  | _ => cases hx
/-- What stands at a place, as a variable of its type is loaded. -/
theorem RdD.loads {E : Env} {c : Cx} {w : World} {d : D} {b o s t : Nat} {i : TI} (h : RdD c.A w d (.at_ b o s)) (ht : TyIs E.P t i) (ha : isAggD i.desc = d.isAgg) (hs : d.isAgg = true → s = i.size) :
    ∃ u, (loadVar t ⟨b, o, none⟩).run E.P w = .ok u w ∧ RdT c w (ofD d) u := by
  unfold loadVar
  simp only [Sem.run_bind, ht.run_isAgg, Result.andThen_ok]
  cases h with
  | one _ _ _ v hna hA hc _ h =>
    rw [ha, hna]
    simp only [Bool.false_eq_true, if_false, run_load, hc]
    exact ⟨v, rfl, rd_ofD h⟩
  | aggAt cs _ _ hna h =>
    rw [ha]
    have hs' := hs rfl
    simp only [D.isAgg, if_true, Sem.run_bind, ht.run_size, Result.andThen_ok]
    have hcell : ∀ j, j < cs.length → ∃ v, w.cell? ⟨b, o + j, none⟩ = some v ∧ RdT c w (ofD1 (cs.getD j default)) v := by
      intro j hj
      have hg : cs[j]? = some (cs.getD j default) := by simp [List.getD_eq_getElem?_getD, List.getElem?_eq_getElem hj]
      have h' := h j _ hg
      have hn := hna j _ hg
      obtain ⟨v, _, hc, _, hv⟩ := h'.cell_of hn
      exact ⟨v, hc, rd_ofD1 hv⟩
    have hch : ∃ f : Nat → Value, ∀ j, j < cs.length → w.cell? ⟨b, o + j, none⟩ = some (f j) ∧ RdT c w (ofD1 (cs.getD j default)) (f j) := by
      refine ⟨fun j => (w.cell? ⟨b, o + j, none⟩).getD default, fun j hj => ?_⟩
      obtain ⟨v, h1, h2⟩ := hcell j hj
      simp only [h1, Option.getD_some]; exact ⟨trivial, h2⟩
    obtain ⟨f, hf⟩ := hch
    rw [run_loadCells E.P w b o i.size f (fun j hj => (hf j (by omega)).1)]
    simp only [Result.andThen_ok, Sem.run_pure]
    refine ⟨_, rfl, .agg _ _ (by simp [← hs']) fun j t v h1 h2 => ?_⟩
    rw [List.getElem?_map] at h1
    obtain ⟨d, hd, rfl⟩ := Option.map_eq_some_iff.1 h1
    have hj : j < cs.length := by
      rcases Nat.lt_or_ge j cs.length with h | h
      · exact h
      · rw [List.getElem?_eq_none h] at hd; cases hd
    have hfj := (hf j hj).2
    simp [List.getElem?_range, ← hs', hj] at h2
    rw [List.getD_eq_getElem?_getD, hd] at hfj
    rw [← h2]; exact hfj
end Go.Proofs.YtlljknmojafkoaaGreatDoor.TL
namespace Go.Proofs.YtlljknmojafkoaaGreatDoor.TL
open Go.RowKit
theorem RdT.lit_inv {c : Cx} {w : World} {v u : Value} (h : RdT c w (.lit v) u) : u = v := by cases h; rfl
def Yields (E : Env) (c : Cx) (w : World) (a : Act) (o : Oper) (v : TV) : Prop := ∃ u, (execOp a.eval o).run E.P w = .ok (.value u) w ∧ RdT c w v u
def QSem (E : Env) (o : Oper) (T : Nat → TV) (S : TS) (v : TV) : Prop :=
  ∀ w0 c w a, Ok E w0 c S w → Opn E c w T a o.op → Yields E c w a o v
/-! ### numbers, truth values, strings -/
def bitsOf (op : BinOp) (k : IntKind) (x y : Int) : Int :=
  match op with
  | .and => k.wrap (BitVec.ofInt k.bits x &&& BitVec.ofInt k.bits y).toNat
  | .or => k.wrap (BitVec.ofInt k.bits x ||| BitVec.ofInt k.bits y).toNat
  | .xor => k.wrap (BitVec.ofInt k.bits x ^^^ BitVec.ofInt k.bits y).toNat
  | _ => k.wrap (BitVec.ofInt k.bits x &&& ~~~ BitVec.ofInt k.bits y).toNat
def tvInt (op : BinOp) (k : IntKind) (x y : Int) : Option Value :=
  match op with
  | .add => some (.int k (k.wrap (x + y)))
  | .sub => some (.int k (k.wrap (x - y)))
  | .mul => some (.int k (k.wrap (x * y)))
  | .quo => if y = 0 then none else some (.int k (k.wrap (x.tdiv y)))
  | .rem => if y = 0 then none else some (.int k (x.tmod y))
  | .and => some (.int k (bitsOf .and k x y))
  | .or => some (.int k (bitsOf .or k x y))
  | .xor => some (.int k (bitsOf .xor k x y))
  | .andNot => some (.int k (bitsOf .andNot k x y))
  | .eql => some (.bool (x == y))
  | .neq => some (.bool (x != y))
  | .lss => some (.bool (decide (x < y)))
  | .leq => some (.bool (decide (x ≤ y)))
  | .gtr => some (.bool (decide (x > y)))
  | .geq => some (.bool (decide (x ≥ y)))
  | _ => none
def tvShift (op : BinOp) (k : IntKind) (x y : Int) : Option Value :=
  match op with
  | .shl => if y < 0 then none else some (.int k (k.wrap (x * 2 ^ min y.toNat k.bits)))
  | .shr => if y < 0 then none else some (.int k (x.fdiv (2 ^ min y.toNat k.bits)))
  | _ => none
def tvStr (op : BinOp) (x y : ByteArray) : Option Value :=
  match op with
  | .add => if x.size + y.size ≤ LIM then some (.string (x ++ y)) else none
  | .eql => some (.bool (x.toList == y.toList))
  | .neq => some (.bool !(x.toList == y.toList))
  | .lss => some (.bool (Op.bytesLess x.toList y.toList))
  | .leq => some (.bool (Op.bytesLess x.toList y.toList || x.toList == y.toList))
  | .gtr => some (.bool !(Op.bytesLess x.toList y.toList || x.toList == y.toList))
  | .geq => some (.bool !(Op.bytesLess x.toList y.toList))
  | _ => none
def tvFlt (op : BinOp) (k : FloatKind) (x y : Nat) : Option Value :=
  match op with
  | .eql => some (.bool (k.format.order x y == some .eq))
  | .neq => some (.bool (k.format.order x y != some .eq))
  | .lss => some (.bool (k.format.order x y == some .lt))
  | .gtr => some (.bool (k.format.order x y == some .gt))
  | _ => none
def tvBin (P : Program) (op : BinOp) (ty : TypeId) (a b : Value) : Option Value :=
  match a, b with
  | .int k x, .int k' y => if op = .shl ∨ op = .shr then tvShift op k x y else if k = k' then tvInt op k x y else none
  | .string x, .string y => tvStr op x y
  | .float k x, .float k' y => if k = k' then tvFlt op k x y else none
  | .bool x, .bool y =>
    match P.underlying ty, op with
    | some .bool, .eql => some (.bool (x == y))
    | some .bool, .neq => some (.bool !(x == y))
    | _, _ => none
  | _, _ => none
theorem run_equalIn_bool {P : Program} {t : TypeId} (h : P.underlying t = some .bool) (x y : Bool) (w : World) (n : Nat) : (Op.equalIn (n + 1) t (.bool x) (.bool y)).run P w = .ok (x == y) w := by
  unfold Op.equalIn
  simp only [Sem.run_bind, run_underlying h, Result.andThen_ok, Sem.run_pure]
theorem run_equal_bool {P : Program} {t : TypeId} (h : P.underlying t = some .bool) (x y : Bool) (w : World) : (Op.equal t (.bool x) (.bool y)).run P w = .ok (x == y) w := run_equalIn_bool h x y w 9999
theorem tvBin_ok {P : Program} {op : BinOp} {ty : TypeId} {a b r : Value} (h : tvBin P op ty a b = some r) (x y : Operand) (w : World) :
    (do eqGuard op ty x y a b; binOp op ty a b : Sem Value).run P w = .ok r w := by
  have hg : (eqGuard op ty x y a b).run P w = .ok () w := by
    unfold eqGuard
    unfold tvBin at h
    split at h <;> (first | (cases op <;> simp [Pure.pure]; done) | cases h)
  simp only [Sem.run_bind, hg, Result.andThen_ok]
  unfold tvBin at h
  split at h
  · rename_i k x k' y
    split at h
    · rename_i hop
      unfold tvShift at h
      rcases hop with rfl | rfl <;> simp only at h <;> split at h <;> first | (cases h; done) | (injection h with h; subst h; simp [binOp, Op.shift, *])
    · rename_i hop
      split at h
      · rename_i hk
        subst hk
        cases op <;> simp only [tvInt] at h <;> first | (cases h; done) | (simp at hop; done) | (injection h with h; subst h; simp [binOp, Op.intArith, Op.intBits, Op.intCmp, bitsOf]; done) |
          (split at h <;> first | (cases h; done) | (injection h with h; subst h; simp [binOp, Op.intDiv, *]; done))
      · cases h
  · rename_i x y
    cases op <;> simp only [tvStr] at h <;> first | (cases h; done) | (injection h with h; subst h; simp [binOp, Op.stringOp]; done) |
      (split at h <;> first | (cases h; done) | (rename_i hle; injection h with h; subst h; simp only [binOp, Op.stringOp]; rw [if_neg (by simp [IntKind.max, IntKind.signed, IntKind.bits, LIM] at *; omega)]; rfl))
  · rename_i k x k' y
    split at h
    · rename_i hk
      subst hk
      cases op <;> simp only [tvFlt] at h <;> first | (cases h; done) | (injection h with h; subst h; simp [binOp, Op.floatCmp]; done)
    · cases h
  · rename_i x y
    split at h
    · rename_i h1
      injection h with h; subst h
      change (do pure (.bool (← Op.equal ty (.bool x) (.bool y))) : Sem Value).run P w = _
      simp only [Sem.run_bind, run_equal_bool h1, Result.andThen_ok, Sem.run_pure]
    · rename_i h1
      injection h with h; subst h
      change (do pure (.bool (!(← Op.equal ty (.bool x) (.bool y)))) : Sem Value).run P w = _
      simp only [Sem.run_bind, run_equal_bool h1, Result.andThen_ok, Sem.run_pure]
    · cases h
  · cases h
theorem q_bin {E : Env} {o : Oper} {T : Nat → TV} {S : TS} {op : BinOp} {ty yt : TypeId} {x y : Operand} (ho : o.op = .binOp op ty x y yt) {a b r : Value}
    (hx : evO E T x = .lit a) (hy : evO E T y = .lit b) (h : tvBin E.P op ty a b = some r) : QSem E o T S (.lit r) := by
  intro w0 c w act hk hop
  rw [ho] at hop
  have h1 := hop x (by simp [Op.operands])
  have h2 := hop y (by simp [Op.operands])
  rw [hx] at h1; rw [hy] at h2
  have e1 := h1.lit_inv; have e2 := h2.lit_inv
  refine ⟨r, ?_, .lit _⟩
  unfold execOp
  rw [ho]
  simp only [e1, e2, Sem.run_bind, Sem.run_pure, Result.andThen_ok]
  have := tvBin_ok h x y w
  simp only [Sem.run_bind] at this
  generalize hgr : (eqGuard op ty x y a b).run E.P w = g at *
  cases g with
  | ok u w' => simp only [Result.andThen_ok] at this ⊢; rw [this]; rfl
  | halt x w' => simp at this
def tvUn (op : UnOp) (a : Value) : Option Value :=
  match op, a with
  | .neg, .int k x => some (.int k (k.wrap (0 - x)))
  | .xor, .int k x => some (.int k (bitsOf .xor k (if k.signed then -1 else k.max) x))
  | .not, .bool b => some (.bool !b)
  | _, _ => none
theorem q_un {E : Env} {o : Oper} {T : Nat → TV} {S : TS} {op : UnOp} {ty : TypeId} {x : Operand} (ho : o.op = .unOp op ty x) {a r : Value}
    (hx : evO E T x = .lit a) (h : tvUn op a = some r) : QSem E o T S (.lit r) := by
  intro w0 c w act hk hop
  rw [ho] at hop
  have h1 := hop x (by simp [Op.operands])
  rw [hx] at h1
  have e1 := h1.lit_inv
  refine ⟨r, ?_, .lit _⟩
  unfold execOp
  rw [ho]
  simp only [e1]
  unfold tvUn at h
  split at h <;> first | (cases h; done) | (injection h with h; subst h; simp [Op.unary, Op.intArith, Op.intBits, bitsOf])
theorem q_move {E : Env} {o : Oper} {T : Nat → TV} {S : TS} {x : Operand} (ho : o.op = .move x ∨ o.op = .assign x) : QSem E o T S (evO E T x) := by
  intro w0 c w act hk hop
  have h1 : RdT c w (evO E T x) (act.eval x) := by rcases ho with ho | ho <;> (rw [ho] at hop; exact hop x (by simp [Op.operands]))
  refine ⟨act.eval x, ?_, h1⟩
  unfold execOp
  rcases ho with ho | ho <;> rw [ho] <;> rfl
theorem q_pick {E : Env} {o : Oper} {T : Nat → TV} {S : TS} {x y z : Operand} (ho : o.op = .pick x y z) {b : Bool} (hx : evO E T x = .lit (.bool b)) : QSem E o T S (if b then evO E T y else evO E T z) := by
  intro w0 c w act hk hop
  rw [ho] at hop
  have h1 := hop x (by simp [Op.operands])
  rw [hx] at h1
  have e1 := h1.lit_inv
  have h2 := hop y (by simp [Op.operands])
  have h3 := hop z (by simp [Op.operands])
  unfold Yields execOp
  rw [ho]
  cases b
  · exact ⟨act.eval z, by simp [e1, asBool], by simpa using h3⟩
  · exact ⟨act.eval y, by simp [e1, asBool], by simpa using h2⟩
theorem q_convInt {E : Env} {o : Oper} {T : Nat → TV} {S : TS} {s d : TypeId} {x : Operand} (ho : o.op = .convert s d x) {k k' : IntKind} {n : Int} {i j : TI}
    (hs : tiOf E.P s = some i) (hd : tiOf E.P d = some j) (hk : j.desc = .int k') (hx : evO E T x = .lit (.int k n)) : QSem E o T S (.lit (.int k' (k'.wrap n))) := by
  intro w0 c w act hk' hop
  rw [ho] at hop
  have h1 := hop x (by simp [Op.operands])
  rw [hx] at h1
  have e1 := h1.lit_inv
  refine ⟨_, ?_, .lit _⟩
  unfold execOp
  rw [ho]
  simp [e1, convert, (tyIs hs).run_und, (tyIs hd).run_und, hk, Conv.intToInt]
theorem q_convFlt {E : Env} {o : Oper} {T : Nat → TV} {S : TS} {s d : TypeId} {x : Operand} (ho : o.op = .convert s d x) {k : IntKind} {k' : FloatKind} {n : Int} {i j : TI}
    (hs : tiOf E.P s = some i) (hd : tiOf E.P d = some j) (hk : j.desc = .float k') (hx : evO E T x = .lit (.int k n)) : QSem E o T S (.lit (.float k' (k'.nearest n))) := by
  intro w0 c w act hk' hop
  rw [ho] at hop
  have h1 := hop x (by simp [Op.operands])
  rw [hx] at h1
  have e1 := h1.lit_inv
  refine ⟨_, ?_, .lit _⟩
  unfold execOp
  rw [ho]
  simp [e1, convert, (tyIs hs).run_und, (tyIs hd).run_und, hk, Conv.intToFloat]
def isIfcD : TypeDesc → Bool
  | .interface _ => true
  | _ => false
/-- A struct without fields as an interface's value. -/
theorem q_iface {E : Env} {o : Oper} {T : Nat → TV} {S : TS} {t : TypeId} {x : Operand} {i : TI} (ho : o.op = .makeInterface t x) (ht : tiOf E.P t = some i) (hd : isIfcD i.desc = false) (hx : evO E T x = .agg []) : QSem E o T S (.lit (.iface t (.agg #[]))) := by
  intro w0 c w act hk' hop
  rw [ho] at hop
  have h1 := hop x (by simp [Op.operands])
  rw [hx] at h1
  generalize hv : act.eval x = v at h1
  cases h1 with
  | agg cs vs hl h0 =>
    have : vs = #[] := by simpa using hl
    subst this
    refine ⟨_, ?_, .lit _⟩
    have hm : (Instr.makeInterface t (.agg #[])).run E.P w = .ok (.iface t (.agg #[])) w := by
      unfold Instr.makeInterface
      simp only [Sem.run_bind, (tyIs ht).run_und, Result.andThen_ok]
      generalize i.desc = d at hd
      cases d <;> first | rfl | cases hd
    unfold execOp
    rw [ho]
    simp [hv, hm]
theorem q_convStr {E : Env} {o : Oper} {T : Nat → TV} {S : TS} {s d : TypeId} {x : Operand} (ho : o.op = .convert s d x) {v : ByteArray} {i j : TI}
    (hs : tiOf E.P s = some i) (hd : tiOf E.P d = some j) (hk : j.desc = .string) (hx : evO E T x = .lit (.string v)) : QSem E o T S (.lit (.string v)) := by
  intro w0 c w act hk' hop
  rw [ho] at hop
  have h1 := hop x (by simp [Op.operands])
  rw [hx] at h1
  have e1 := h1.lit_inv
  refine ⟨_, ?_, .lit _⟩
  unfold execOp
  rw [ho]
  simp [e1, convert, (tyIs hs).run_und, (tyIs hd).run_und, hk]
/-! ### loads -/
theorem loadRun {E : Env} {w : World} {t b o : Nat} : (Instr.loadAt t (.pointer (some ⟨b, o, none⟩))).run E.P w = (loadVar t ⟨b, o, none⟩).run E.P w := by
  simp [Instr.loadAt, Instr.sureAddr]
theorem q_loadE {E : Env} {o : Oper} {T : Nat → TV} {S : TS} {t : TypeId} {x : Operand} (ho : o.op = .load t x) {s : Nat} {d : D} {i : TI}
    (ht : tiOf E.P t = some i) (hx : evO E T x = .eptr s d) (ha : isAggD i.desc = d.isAgg) (hs : d.isAgg = true → s = i.size) : QSem E o T S (ofD d) := by
  intro w0 c w act hk hop
  rw [ho] at hop
  have h1 := hop x (by simp [Op.operands])
  rw [hx] at h1
  generalize hv : act.eval x = v at h1
  cases h1 with
  | eptr _ _ b p hd =>
    obtain ⟨u, hu, hr⟩ := hd.loads (tyIs ht) ha hs
    refine ⟨u, ?_, hr⟩
    unfold execOp
    rw [ho]
    simp only [hv, Sem.run_bind, loadRun, hu, Result.andThen_ok, Sem.run_pure]
theorem q_loadP {E : Env} {o : Oper} {T : Nat → TV} {S : TS} {t : TypeId} {x : Operand} (ho : o.op = .load t x) {id off e : Nat} {cs : List TV} {i : TI} {r : TV}
    (ht : tiOf E.P t = some i) (hx : evO E T x = .ptr id off) (hobj : S.objs id = .cells e cs)
    (h : if isAggD i.desc then off + i.size ≤ cs.length ∧ r = .agg ((cs.drop off).take i.size) else cs[off]? = some r) : QSem E o T S r := by
  intro w0 c w act hk hop
  rw [ho] at hop
  have h1 := hop x (by simp [Op.operands])
  rw [hx] at h1
  generalize hv : act.eval x = v at h1
  cases h1 with
  | ptr _ _ b e' hγ =>
    have hob := hk.rel.obj id (hk.rel.dom _ _ hγ)
    rw [hobj] at hob
    obtain ⟨_, _, _, hc, _⟩ := hob.2 b e' hγ
    unfold Yields execOp
    rw [ho]
    simp only [hv, Sem.run_bind, loadRun, loadVar, (tyIs ht).run_isAgg, Result.andThen_ok]
    by_cases hag : isAggD i.desc = true
    · rw [if_pos hag] at h
      obtain ⟨hle, rfl⟩ := h
      simp only [hag, if_true, Sem.run_bind, (tyIs ht).run_size, Result.andThen_ok]
      have hch : ∃ f : Nat → Value, ∀ j, j < i.size → w.cell? ⟨b, e'.1 + off + j, none⟩ = some (f j) ∧ ∃ x, cs[off + j]? = some x ∧ RdT c w x (f j) := by
        refine ⟨fun j => (w.cell? ⟨b, e'.1 + off + j, none⟩).getD default, fun j hj => ?_⟩
        have hlt : off + j < cs.length := by omega
        obtain ⟨v, h1, h2⟩ := hc (off + j) _ (List.getElem?_eq_getElem hlt)
        rw [← Nat.add_assoc] at h1
        simp only [h1, Option.getD_some]
        exact ⟨trivial, _, List.getElem?_eq_getElem hlt, h2⟩
      obtain ⟨f, hf⟩ := hch
      rw [run_loadCells E.P w b (e'.1 + off) i.size f (fun j hj => (hf j hj).1)]
      simp only [Result.andThen_ok, Sem.run_pure]
      refine ⟨_, rfl, .agg _ _ (by simp; omega) fun j t v h1 h2 => ?_⟩
      have hj : j < i.size := by
        rcases Nat.lt_or_ge j i.size with h | h
        · exact h
        · simp [List.getElem?_take, Nat.not_lt.2 h] at h1
      obtain ⟨_, x, hx1, hx2⟩ := hf j hj
      simp [List.getElem?_take, hj, List.getElem?_drop, hx1] at h1
      simp [List.getElem?_range, hj] at h2
      subst h1 h2
      exact hx2
    · rw [if_neg hag] at h
      obtain ⟨v, p, q⟩ := hc off _ h
      simp only [hag, Bool.false_eq_true, if_false, run_load, p, Result.andThen_ok, Sem.run_pure]
      exact ⟨v, rfl, q⟩
end Go.Proofs.YtlljknmojafkoaaGreatDoor.TL
namespace Go.Proofs.YtlljknmojafkoaaGreatDoor.TL
open Go.RowKit
theorem RdD.agg_inv {A : Nat → Nat → Prop} {w : World} {cs : List D} {b o s : Nat} (h : RdD A w (.agg cs) (.at_ b o s)) :
    s = cs.length ∧ (∀ (j : Nat) t, cs[j]? = some t → t.isAgg = false) ∧ ∀ (j : Nat) t, cs[j]? = some t → RdD A w t (.at_ b (o + j) 1) := by
  generalize hx : Tgt.at_ b o s = x at h
  generalize hy : D.agg cs = y at h
  cases h with
  | one _ _ _ v hna hA hc _ h => subst hy; cases hna
  | aggAt cs' _ _ hna h => injection hy with hy; injection hx with h1 h2 h3; subst hy h1 h2 h3; exact ⟨rfl, hna, h⟩
  | _ => cases hx
theorem RdD.sub {A : Nat → Nat → Prop} {w : World} {cs : List D} {b o s : Nat} (h : RdD A w (.agg cs) (.at_ b o s)) (k n : Nat) (hn : k + n ≤ cs.length) :
    RdD A w (.agg ((cs.drop k).take n)) (.at_ b (o + k) n) := by
  obtain ⟨_, h1, h2⟩ := h.agg_inv
  have hl : ((cs.drop k).take n).length = n := by simp; omega
  have key : ∀ (j : Nat) t, ((cs.drop k).take n)[j]? = some t → cs[k + j]? = some t := by
    intro j t hj
    rw [List.getElem?_take] at hj
    split at hj
    · rwa [List.getElem?_drop] at hj
    · cases hj
  have := RdD.aggAt (A := A) (w := w) ((cs.drop k).take n) b (o + k) (fun j t hj => h1 _ t (key j t hj)) (fun j t hj => by have := h2 _ t (key j t hj); rwa [Nat.add_assoc])
  rwa [hl] at this
/-- A part of an aggregate, as a value. -/
def partT (ag : Bool) (cs : List TV) (off size : Nat) : Option TV :=
  if ag then (if off + size ≤ cs.length then some (.agg ((cs.drop off).take size)) else none) else cs[off]?
def partE (ag : Bool) (cs : List D) (off size : Nat) : Option TV :=
  if ag then (if off + size ≤ cs.length then some (.eptr size (.agg ((cs.drop off).take size))) else none)
  else match cs[off]? with
    | some d => some (.eptr 1 d)
    | none => none
theorem partE_ok {c : Cx} {w : World} {cs : List D} {b o s off size : Nat} {ag : Bool} {r : TV} (h : RdD c.A w (.agg cs) (.at_ b o s)) (hr : partE ag cs off size = some r) :
    RdT c w r (.pointer (some ⟨b, o + off, none⟩)) := by
  unfold partE at hr
  split at hr
  · split at hr
    · rename_i hle
      injection hr with hr; subst hr
      exact .eptr _ _ _ _ (h.sub off size hle)
    · cases hr
  · split at hr
    · rename_i d hd
      injection hr with hr; subst hr
      exact .eptr _ _ _ _ (h.agg_inv.2.2 off d hd)
    · cases hr
theorem partT_ok {E : Env} {c : Cx} {w : World} {cs : List TV} {vs : Array Value} {t off : Nat} {i : TI} {r : TV} (ht : TyIs E.P t i)
    (hl : vs.size = cs.length) (h : ∀ (j : Nat) t v, cs[j]? = some t → vs[j]? = some v → RdT c w t v) (hr : partT (isAggD i.desc) cs off i.size = some r) :
    ∃ u, (part t vs off).run E.P w = .ok u w ∧ RdT c w r u := by
  unfold part
  simp only [Sem.run_bind, ht.run_isAgg, Result.andThen_ok]
  unfold partT at hr
  by_cases hag : isAggD i.desc = true
  · rw [if_pos hag] at hr
    simp only [hag, if_true, Sem.run_bind, ht.run_size, Result.andThen_ok, Sem.run_pure]
    split at hr
    · rename_i hle
      injection hr with hr; subst hr
      refine ⟨_, rfl, .agg _ _ (by simp; omega) fun j t v h1 h2 => ?_⟩
      rw [List.getElem?_take] at h1
      split at h1
      · rename_i hj
        rw [List.getElem?_drop] at h1
        refine h (off + j) t v h1 ?_
        rw [Array.getElem?_extract] at h2
        split at h2
        · exact h2
        · cases h2
      · cases h1
    · cases hr
  · rw [if_neg hag] at hr
    simp only [hag, Bool.false_eq_true, if_false]
    have hlt : off < cs.length := by
      rcases Nat.lt_or_ge off cs.length with h | h
      · exact h
      · rw [List.getElem?_eq_none h] at hr; cases hr
    have : vs[off]? = some (vs[off]'(by omega)) := Array.getElem?_eq_getElem (by omega)
    rw [this]
    exact ⟨_, rfl, h off r _ hr this⟩
theorem q_field {E : Env} {o : Oper} {T : Nat → TV} {S : TS} {t : TypeId} {x : Operand} {f : Nat} (ho : o.op = .field t x f) {fs : Array Field} {fld : Field} {cs : List TV} {i j : TI} {r : TV}
    (ht : tiOf E.P t = some i) (hd : i.desc = .struct fs) (hf : fs[f]? = some fld) (hj : tiOf E.P fld.type = some j) (hx : evO E T x = .agg cs) (hr : partT (isAggD j.desc) cs fld.offset j.size = some r) : QSem E o T S r := by
  intro w0 c w act hk hop
  rw [ho] at hop
  have h1 := hop x (by simp [Op.operands])
  rw [hx] at h1
  generalize hv : act.eval x = v at h1
  cases h1 with
  | agg _ vs hl hh =>
    obtain ⟨u, hu, hr'⟩ := partT_ok (tyIs hj) hl hh hr
    refine ⟨u, ?_, hr'⟩
    unfold execOp
    rw [ho]
    simp only [hv, Instr.field, Sem.run_bind, (tyIs ht).run_und, Result.andThen_ok, hd, hf, asAgg, Sem.run_pure, hu]
theorem run_fieldAt {E : Env} {s b o f : Nat} {fs : Array Field} {fld : Field} {i j : TI} (ht : TyIs E.P s i) (hd : i.desc = .struct fs) (hf : fs[f]? = some fld) (hj : TyIs E.P fld.type j) (hs : 0 < j.size) (w : World) :
    (Instr.fieldAt s (.pointer (some ⟨b, o, none⟩)) f).run E.P w = .ok (.pointer (some ⟨b, o + fld.offset, none⟩)) w := by
  simp only [Instr.fieldAt, Sem.run_bind, ht.run_und, Result.andThen_ok, hd, hf, Instr.sureAddr, Sem.run_pure, fieldPlace, hj.run_size]
  rw [if_neg (by omega)]
  simp only [Sem.run_pure, Result.andThen_ok, addr_add]
theorem q_fieldP {E : Env} {o : Oper} {T : Nat → TV} {S : TS} {t : TypeId} {x : Operand} {f : Nat} (ho : o.op = .fieldAddr t x f) {fs : Array Field} {fld : Field} {id off : Nat} {i j : TI}
    (ht : tiOf E.P t = some i) (hd : i.desc = .struct fs) (hf : fs[f]? = some fld) (hj : tiOf E.P fld.type = some j) (hs : 0 < j.size) (hx : evO E T x = .ptr id off) : QSem E o T S (.ptr id (off + fld.offset)) := by
  intro w0 c w act hk hop
  rw [ho] at hop
  have h1 := hop x (by simp [Op.operands])
  rw [hx] at h1
  generalize hv : act.eval x = v at h1
  cases h1 with
  | ptr _ _ b e hγ =>
    refine ⟨_, ?_, .ptr _ _ b e hγ⟩
    unfold execOp
    rw [ho]
    simp only [hv, Sem.run_bind, run_fieldAt (tyIs ht) hd hf (tyIs hj) hs, Result.andThen_ok, Sem.run_pure, Nat.add_assoc]
theorem q_fieldE {E : Env} {o : Oper} {T : Nat → TV} {S : TS} {t : TypeId} {x : Operand} {f : Nat} (ho : o.op = .fieldAddr t x f) {fs : Array Field} {fld : Field} {s : Nat} {cs : List D} {i j : TI} {r : TV}
    (ht : tiOf E.P t = some i) (hd : i.desc = .struct fs) (hf : fs[f]? = some fld) (hj : tiOf E.P fld.type = some j) (hs : 0 < j.size) (hx : evO E T x = .eptr s (.agg cs))
    (hr : partE (isAggD j.desc) cs fld.offset j.size = some r) : QSem E o T S r := by
  intro w0 c w act hk hop
  rw [ho] at hop
  have h1 := hop x (by simp [Op.operands])
  rw [hx] at h1
  generalize hv : act.eval x = v at h1
  cases h1 with
  | eptr _ _ b p hd' =>
    refine ⟨_, ?_, partE_ok hd' hr⟩
    unfold execOp
    rw [ho]
    simp only [hv, Sem.run_bind, run_fieldAt (tyIs ht) hd hf (tyIs hj) hs, Result.andThen_ok, Sem.run_pure]
/-! ### elements -/
theorem run_indexAt_arr {E : Env} {t b o n e : Nat} {i j : TI} (ht : TyIs E.P t i) (hd : i.desc = .array n e) (hj : TyIs E.P e j) (k : IntKind) (m : Int) (h0 : 0 ≤ m) (h1 : m < n) (w : World) :
    (Instr.indexAt t (.pointer (some ⟨b, o, none⟩)) (.int k m)).run E.P w = .ok (.pointer (some ⟨b, o + m.toNat * j.size, none⟩)) w := by
  simp only [Instr.indexAt, asIntOf, Sem.run_bind, Sem.run_pure, Result.andThen_ok, ht.run_und, hd, Instr.sureAddr]
  rw [if_pos ⟨h0, h1⟩]
  simp only [Sem.run_bind, hj.run_size, Result.andThen_ok, Sem.run_pure, addr_add]
theorem run_indexAt_sl {E : Env} {t b o n cap e : Nat} {i j : TI} (ht : TyIs E.P t i) (hd : i.desc = .slice e) (hj : TyIs E.P e j) (k : IntKind) (m : Int) (h0 : 0 ≤ m) (h1 : m < n) (w : World) :
    (Instr.indexAt t (.slice (some ⟨b, o, none⟩) n cap) (.int k m)).run E.P w = .ok (.pointer (some ⟨b, o + m.toNat * j.size, none⟩)) w := by
  simp only [Instr.indexAt, asIntOf, Sem.run_bind, Sem.run_pure, Result.andThen_ok, ht.run_und, hd]
  rw [if_pos ⟨h0, h1⟩]
  simp only [Sem.run_bind, hj.run_size, Result.andThen_ok, Sem.run_pure, addr_add]
theorem q_indexAddrP {E : Env} {o : Oper} {T : Nat → TV} {S : TS} {t : TypeId} {x y : Operand} (ho : o.op = .indexAddr t x y) {id off n e : Nat} {k : IntKind} {m : Int} {i j : TI}
    (ht : tiOf E.P t = some i) (hd : i.desc = .array n e) (hj : tiOf E.P e = some j) (hx : evO E T x = .ptr id off) (hy : evO E T y = .lit (.int k m)) (h0 : 0 ≤ m) (h1 : m < n) : QSem E o T S (.ptr id (off + m.toNat * j.size)) := by
  intro w0 c w act hk hop
  rw [ho] at hop
  have h2 := hop x (by simp [Op.operands])
  have h3 := hop y (by simp [Op.operands])
  rw [hx] at h2; rw [hy] at h3
  have e3 := h3.lit_inv
  generalize hv : act.eval x = v at h2
  cases h2 with
  | ptr _ _ b e hγ =>
    refine ⟨_, ?_, .ptr _ _ b e hγ⟩
    unfold execOp
    rw [ho]
    simp only [hv, e3, Sem.run_bind, run_indexAt_arr (tyIs ht) hd (tyIs hj) k m h0 h1, Result.andThen_ok, Sem.run_pure, Nat.add_assoc]
theorem q_indexAddrE {E : Env} {o : Oper} {T : Nat → TV} {S : TS} {t : TypeId} {x y : Operand} (ho : o.op = .indexAddr t x y) {s n e : Nat} {cs : List D} {k : IntKind} {m : Int} {i j : TI} {r : TV}
    (ht : tiOf E.P t = some i) (hd : i.desc = .array n e) (hj : tiOf E.P e = some j) (hx : evO E T x = .eptr s (.agg cs)) (hy : evO E T y = .lit (.int k m)) (h0 : 0 ≤ m) (h1 : m < n)
    (hr : partE (isAggD j.desc) cs (m.toNat * j.size) j.size = some r) : QSem E o T S r := by
  intro w0 c w act hk hop
  rw [ho] at hop
  have h2 := hop x (by simp [Op.operands])
  have h3 := hop y (by simp [Op.operands])
  rw [hx] at h2; rw [hy] at h3
  have e3 := h3.lit_inv
  generalize hv : act.eval x = v at h2
  cases h2 with
  | eptr _ _ b p hd' =>
    refine ⟨_, ?_, partE_ok hd' hr⟩
    unfold execOp
    rw [ho]
    simp only [hv, e3, Sem.run_bind, run_indexAt_arr (tyIs ht) hd (tyIs hj) k m h0 h1, Result.andThen_ok, Sem.run_pure]
theorem q_indexAddrS {E : Env} {o : Oper} {T : Nat → TV} {S : TS} {t : TypeId} {x y : Operand} (ho : o.op = .indexAddr t x y) {g : Tag} {s e : Nat} {xs : List D} {k : IntKind} {m : Int} {i j : TI}
    (ht : tiOf E.P t = some i) (hd : i.desc = .slice e) (hj : tiOf E.P e = some j) (hx : evO E T x = .sl g s xs) (hy : evO E T y = .lit (.int k m)) (h0 : 0 ≤ m) (h1 : m < xs.length) (hs : s = j.size) :
    QSem E o T S (.eptr s (xs.getD m.toNat default)) := by
  intro w0 c w act hk hop
  rw [ho] at hop
  have h2 := hop x (by simp [Op.operands])
  have h3 := hop y (by simp [Op.operands])
  rw [hx] at h2; rw [hy] at h3
  have e3 := h3.lit_inv
  generalize hv : act.eval x = v at h2
  cases h2 with
  | sl _ _ _ _ hd' _ =>
    cases hd' with
    | nil => simp at h1; omega
    | sl _ _ b p n cap hn hc hm hh =>
      have hlt : m.toNat < xs.length := by omega
      have hg : xs[m.toNat]? = some (xs.getD m.toNat default) := by simp [List.getD_eq_getElem?_getD, List.getElem?_eq_getElem hlt]
      refine ⟨_, ?_, .eptr _ _ b (p + m.toNat * s) (hh _ _ hg)⟩
      unfold execOp
      rw [ho]
      have hmn : m < (n : Int) := by omega
      simp only [hv, e3, Sem.run_bind, run_indexAt_sl (tyIs ht) hd (tyIs hj) k m h0 hmn, Result.andThen_ok, Sem.run_pure, hs]
theorem q_indexAddrV {E : Env} {o : Oper} {T : Nat → TV} {S : TS} {t : TypeId} {x y : Operand} (ho : o.op = .indexAddr t x y) {id off s len e : Nat} {k : IntKind} {m : Int} {i j : TI}
    (ht : tiOf E.P t = some i) (hd : i.desc = .slice e) (hj : tiOf E.P e = some j) (hx : evO E T x = .vs id off s len) (hy : evO E T y = .lit (.int k m)) (h0 : 0 ≤ m) (h1 : m < len) (hs : s = j.size) :
    QSem E o T S (.ptr id (off + m.toNat * s)) := by
  intro w0 c w act hk hop
  rw [ho] at hop
  have h2 := hop x (by simp [Op.operands])
  have h3 := hop y (by simp [Op.operands])
  rw [hx] at h2; rw [hy] at h3
  have e3 := h3.lit_inv
  generalize hv : act.eval x = v at h2
  cases h2 with
  | vsN => exact absurd h1 (by simp; omega)
  | vs _ _ _ _ cap b e hγ hc =>
    refine ⟨_, ?_, .ptr _ _ b e hγ⟩
    unfold execOp
    rw [ho]
    have hmn : m < (len : Int) := by omega
    simp only [hv, e3, Sem.run_bind, run_indexAt_sl (tyIs ht) hd (tyIs hj) k m h0 hmn, Result.andThen_ok, Sem.run_pure, hs, Nat.add_assoc]
theorem q_indexA {E : Env} {o : Oper} {T : Nat → TV} {S : TS} {t : TypeId} {x y : Operand} (ho : o.op = .index t x y) {n e : Nat} {cs : List TV} {k : IntKind} {m : Int} {i j : TI} {r : TV}
    (ht : tiOf E.P t = some i) (hd : i.desc = .array n e) (hj : tiOf E.P e = some j) (hx : evO E T x = .agg cs) (hy : evO E T y = .lit (.int k m)) (h0 : 0 ≤ m) (h1 : m < n)
    (hr : partT (isAggD j.desc) cs (m.toNat * j.size) j.size = some r) : QSem E o T S r := by
  intro w0 c w act hk hop
  rw [ho] at hop
  have h2 := hop x (by simp [Op.operands])
  have h3 := hop y (by simp [Op.operands])
  rw [hx] at h2; rw [hy] at h3
  have e3 := h3.lit_inv
  generalize hv : act.eval x = v at h2
  cases h2 with
  | agg _ vs hl hh =>
    obtain ⟨u, hu, hr'⟩ := partT_ok (tyIs hj) hl hh hr
    refine ⟨u, ?_, hr'⟩
    unfold execOp
    rw [ho]
    simp only [hv, e3, Instr.index, asIntOf, Sem.run_bind, Sem.run_pure, Result.andThen_ok, (tyIs ht).run_und, hd]
    rw [if_pos ⟨h0, h1⟩]
    simp only [Sem.run_bind, (tyIs hj).run_size, Result.andThen_ok, hu, Sem.run_pure]
theorem q_indexStr {E : Env} {o : Oper} {T : Nat → TV} {S : TS} {t : TypeId} {x y : Operand} (ho : o.op = .index t x y) {v : ByteArray} {k : IntKind} {m : Int} {i : TI} 
    (ht : tiOf E.P t = some i) (hd : i.desc = .string) (hx : evO E T x = .lit (.string v)) (hy : evO E T y = .lit (.int k m)) (h0 : 0 ≤ m) (h1 : m.toNat < v.size) :
    QSem E o T S (.lit (.int .u8 (v[m.toNat]'h1).toNat)) := by
  intro w0 c w act hk hop
  rw [ho] at hop
  have h2 := hop x (by simp [Op.operands])
  have h3 := hop y (by simp [Op.operands])
  rw [hx] at h2; rw [hy] at h3
  have e3 := h3.lit_inv
  have e2 := h2.lit_inv
  refine ⟨_, ?_, .lit _⟩
  unfold execOp
  rw [ho]
  simp only [e2, e3, Instr.index, asIntOf, Sem.run_bind, Sem.run_pure, Result.andThen_ok, (tyIs ht).run_und, hd]
  rw [if_pos h0]
  have hg : v[m.toNat]? = some v[m.toNat] := by simp [getElem?_pos, h1]
  rw [hg]
  rfl
theorem q_extract {E : Env} {o : Oper} {T : Nat → TV} {S : TS} {x : Operand} {k : Nat} (ho : o.op = .extract x k) {ts : List TV} {r : TV} (hx : evO E T x = .tup ts) (hr : ts[k]? = some r) : QSem E o T S r := by
  intro w0 c w act hk hop
  rw [ho] at hop
  have h1 := hop x (by simp [Op.operands])
  rw [hx] at h1
  generalize hv : act.eval x = v at h1
  cases h1 with
  | tup _ vs hl hh =>
    have hlt : k < ts.length := by
      rcases Nat.lt_or_ge k ts.length with h | h
      · exact h
      · rw [List.getElem?_eq_none h] at hr; cases hr
    have hg : vs[k]? = some (vs[k]'(by omega)) := Array.getElem?_eq_getElem (by omega)
    refine ⟨_, ?_, hh k r _ hr hg⟩
    unfold execOp
    rw [ho]
    simp only [hv, Instr.extract, hg, Sem.run_bind, Sem.run_pure, Result.andThen_ok]
theorem q_nilCheck {E : Env} {o : Oper} {T : Nat → TV} {S : TS} {x : Operand} (ho : o.op = .nilCheck x) (hx : (∃ id off, evO E T x = .ptr id off) ∨ (∃ s d, evO E T x = .eptr s d)) : QSem E o T S (evO E T x) := by
  intro w0 c w act hk hop
  rw [ho] at hop
  have h1 := hop x (by simp [Op.operands])
  refine ⟨act.eval x, ?_, h1⟩
  unfold execOp
  rw [ho]
  generalize hv : act.eval x = v at h1
  rcases hx with ⟨id, off, hx⟩ | ⟨s, d, hx⟩ <;> rw [hx] at h1 <;> cases h1 <;> simp [hv]
theorem q_makeFunc {E : Env} {o : Oper} {T : Nat → TV} {S : TS} {f : Fn} {first cap : Array Operand} (ho : o.op = .makeFunc f first cap) :
    QSem E o T S (.fn f (first.toList.map (evO E T)) (cap.toList.map (evO E T))) := by
  intro w0 c w act hk hop
  rw [ho] at hop
  have key : ∀ (l : Array Operand), (∀ x ∈ l.toList, RdT c w (evO E T x) (act.eval x)) → ∀ (j : Nat) t v, (l.toList.map (evO E T))[j]? = some t → (l.map act.eval)[j]? = some v → RdT c w t v := by
    intro l hl j t v h1 h2
    rw [List.getElem?_map] at h1
    obtain ⟨x, hx, rfl⟩ := Option.map_eq_some_iff.1 h1
    rw [Array.getElem?_map] at h2
    rw [Array.getElem?_toList] at hx
    rw [hx] at h2
    simp only [Option.map_some, Option.some.injEq] at h2
    subst h2
    exact hl x (by rw [Array.mem_toList_iff]; exact Array.mem_of_getElem? hx)
  refine ⟨_, ?_, .fn f _ _ (first.map act.eval) (cap.map act.eval) (by simp) (by simp) (key first fun x hx => hop x ?_) (key cap fun x hx => hop x ?_)⟩
  · unfold execOp
    rw [ho]
    simp only [Instr.makeFunc, Sem.run_bind, Sem.run_pure, Result.andThen_ok]
  · simp only [Op.operands, Array.toList_append, List.mem_append]; exact .inl hx
  · simp only [Op.operands, Array.toList_append, List.mem_append]; exact .inr hx
end Go.Proofs.YtlljknmojafkoaaGreatDoor.TL
namespace Go.Proofs.YtlljknmojafkoaaGreatDoor.TL
open Go.RowKit
def intOfT : Option TV → Option (Option Int)
  | none => some none
  | some (.lit (.int _ n)) => some (some n)
  | _ => none
theorem intOfT_ok {c : Cx} {w : World} {x : Option TV} {v : Option Value} {n : Option Int} (h : intOfT x = some n) (hn : x.isNone = v.isNone) (hr : ∀ t u, x = some t → v = some u → RdT c w t u) :
    (n = none ∧ v = none) ∨ ∃ k m, n = some m ∧ v = some (.int k m) := by
  unfold intOfT at h
  split at h
  · injection h with h; subst h
    left
    refine ⟨rfl, ?_⟩
    cases v with
    | none => rfl
    | some u => simp at hn
  · rename_i k m
    injection h with h; subst h
    right
    cases v with
    | none => simp at hn
    | some u => exact ⟨k, m, rfl, by rw [(hr _ _ rfl rfl).lit_inv]⟩
  · cases h
/-- The bounds of a slice expression: low, high, and the capacity's end. -/
def bnd (len cap : Nat) (lo hi mx : Option Int) : Option (Nat × Nat × Nat) :=
  if (mx.isSome = true → hi.isSome = true) ∧ 0 ≤ lo.getD 0 ∧ lo.getD 0 ≤ hi.getD len ∧ hi.getD len ≤ mx.getD cap ∧ mx.getD cap ≤ cap ∧ (hi = none → len ≤ cap) then some ((lo.getD 0).toNat, (hi.getD len).toNat, (mx.getD cap).toNat) else none
theorem run_bnd {P : Program} {w : World} {len cap : Nat} {lo hi mx : Option Int} {vlo vhi vmx : Option Value} {isS : Bool} {r : Nat × Nat × Nat}
    (h1 : (lo = none ∧ vlo = none) ∨ ∃ k m, lo = some m ∧ vlo = some (.int k m)) (h2 : (hi = none ∧ vhi = none) ∨ ∃ k m, hi = some m ∧ vhi = some (.int k m))
    (h3 : (mx = none ∧ vmx = none) ∨ ∃ k m, mx = some m ∧ vmx = some (.int k m)) (h : bnd len cap lo hi mx = some r) :
    (Instr.sliceBounds isS len cap vlo vhi vmx).run P w = .ok r w := by
  unfold bnd at h
  split at h
  · rename_i hc
    injection h with h; subst h
    obtain ⟨c0, c1, c2, c3, c4, c5⟩ := hc
    rcases h3 with ⟨rfl, rfl⟩ | ⟨k3, m3, rfl, rfl⟩
    · rcases h2 with ⟨rfl, rfl⟩ | ⟨k2, m2, rfl, rfl⟩
      · rcases h1 with ⟨rfl, rfl⟩ | ⟨k1, m1, rfl, rfl⟩
        · simp [Instr.sliceBounds]
        · simp only [Option.getD_some, Option.getD_none] at c1 c2
          simp [Instr.sliceBounds, run_sliceBound, c1, c2]
      · rcases h1 with ⟨rfl, rfl⟩ | ⟨k1, m1, rfl, rfl⟩
        · simp only [Option.getD_some, Option.getD_none] at c1 c2 c3
          simp [Instr.sliceBounds, run_sliceBound, c1, c2, c3]
        · simp only [Option.getD_some, Option.getD_none] at c1 c2 c3
          have e : 0 ≤ m2 := by omega
          have e1 : m1 ≤ (m2.toNat : Int) := by omega
          have r1 := run_sliceBound (P := P) (w := w) k1 m1 m2.toNat .sliceB c1 e1
          simp [Instr.sliceBounds, run_sliceBound, c1, c2, c3, e, r1]
    · rcases h2 with ⟨rfl, rfl⟩ | ⟨k2, m2, rfl, rfl⟩
      · simp at c0
      · simp only [Option.getD_some, Option.getD_none] at c1 c2 c3 c4
        rcases h1 with ⟨rfl, rfl⟩ | ⟨k1, m1, rfl, rfl⟩
        · simp only [Option.getD_none] at c1 c2
          have e : 0 ≤ m3 := by omega
          have e2 : m2 ≤ (m3.toNat : Int) := by omega
          have r2 := run_sliceBound (P := P) (w := w) k2 m2 m3.toNat .slice3B c2 e2
          simp [Instr.sliceBounds, run_sliceBound, c1, c2, c3, c4, e, r2]
        · simp only [Option.getD_some] at c1 c2
          have e : 0 ≤ m3 := by omega
          have e0 : 0 ≤ m2 := by omega
          have e2 : m2 ≤ (m3.toNat : Int) := by omega
          have e1 : m1 ≤ (m2.toNat : Int) := by omega
          have r2 := run_sliceBound (P := P) (w := w) k2 m2 m3.toNat .slice3B e0 e2
          have r1 := run_sliceBound (P := P) (w := w) k1 m1 m2.toNat .slice3C c1 e1
          simp [Instr.sliceBounds, run_sliceBound, c1, c2, c3, c4, e, r1, r2]
  · cases h
theorem RdD.sub_sl {A : Nat → Nat → Prop} {w : World} {s : Nat} {xs : List D} {a : Option Addr} {n cap l h m : Nat} (hd : RdD A w (.sl s xs) (.val (.slice a n cap))) (h1 : l ≤ h) (h2 : h ≤ n) (h3 : h ≤ m) :
    RdD A w (.sl s ((xs.take h).drop l)) (.val (.slice (if m = l then a else a.map (·.add (l * s))) (h - l) (m - l))) := by
  cases hd with
  | nil _ _ _ => 
    obtain rfl : h = 0 := by omega
    simpa using RdD.nil s _ _
  | sl _ _ b o _ _ hn hc hm hh =>
    by_cases hz : h - l = 0
    · have : (xs.take h).drop l = [] := by
        apply List.drop_eq_nil_of_le
        rw [List.length_take]; omega
      rw [this, hz]
      exact .nil _ _ _
    · have hlm : m ≠ l := by omega
      rw [if_neg hlm]
      simp only [Option.map_some, addr_add]
      refine .sl s _ b _ _ _ (by simp; omega) (by omega) (by omega) ?_
      intro i t hi
      rw [List.getElem?_drop, List.getElem?_take] at hi
      split at hi
      · have := hh _ t hi
        rwa [Nat.add_mul, ← Nat.add_assoc] at this
      · cases hi
def tvSlice (size : Nat) (x : TV) (lo hi mx : Option Int) : Option TV :=
  match x with
  | .sl g s xs =>
    if s = size then
      match hi, mx with
      | none, none => if 0 ≤ lo.getD 0 ∧ lo.getD 0 ≤ xs.length then some (.sl g s (xs.drop (lo.getD 0).toNat)) else none
      | some h, none => if 0 ≤ lo.getD 0 ∧ lo.getD 0 ≤ h ∧ h ≤ xs.length then some (.sl .none s ((xs.take h.toNat).drop (lo.getD 0).toNat)) else none
      | some h, some m => if 0 ≤ lo.getD 0 ∧ lo.getD 0 ≤ h ∧ h = m ∧ h ≤ xs.length then some (.sl .full s ((xs.take h.toNat).drop (lo.getD 0).toNat)) else none
      | _, _ => none
    else none
  | .vs id off s len =>
    match mx with
    | none => if s = size ∧ 0 ≤ lo.getD 0 ∧ lo.getD 0 ≤ hi.getD len ∧ hi.getD len ≤ len then some (.vs id (off + (lo.getD 0).toNat * s) s ((hi.getD len).toNat - (lo.getD 0).toNat)) else none
    | some _ => none
  | _ => none
theorem run_slice_sl {P : Program} {t e : Nat} {i j : TI} (ht : TyIs P t i) (hd : i.desc = .slice e) (hj : TyIs P e j) {a : Option Addr} {len cap l h m : Nat} {lo hi mx : Option Value} {w : World}
    (hb : (Instr.sliceBounds true len cap lo hi mx).run P w = .ok (l, h, m) w) :
    (Instr.sliceAt t (.slice a len cap) lo hi mx).run P w = .ok (.slice (if m = l then a else a.map (·.add (l * j.size))) (h - l) (m - l)) w := by
  unfold Instr.sliceAt
  simp only [Sem.run_bind, ht.run_und, Result.andThen_ok, hd]
  unfold Instr.slice
  simp only [Sem.run_bind, ht.run_und, Result.andThen_ok, hd, hb, hj.run_size, Sem.run_pure]
theorem q_slice {E : Env} {o : Oper} {T : Nat → TV} {S : TS} {t : TypeId} {x : Operand} {lo hi mx : Option Operand} (ho : o.op = .slice t x lo hi mx) {e : Nat} {i j : TI} {nl nh nm : Option Int} {r : TV}
    (ht : tiOf E.P t = some i) (hd : i.desc = .slice e) (hj : tiOf E.P e = some j) (hl : intOfT (lo.map (evO E T)) = some nl) (hh : intOfT (hi.map (evO E T)) = some nh) (hm : intOfT (mx.map (evO E T)) = some nm)
    (hr : tvSlice j.size (evO E T x) nl nh nm = some r) : QSem E o T S r := by
  intro w0 c w act hk hop
  rw [ho] at hop
  have hx := hop x (by simp [Op.operands])
  have b1 := intOfT_ok (c := c) (w := w) (v := lo.map act.eval) hl (by cases lo <;> rfl) (fun t u h1 h2 => by
    cases lo with
    | none => cases h1
    | some y => simp only [Option.map_some, Option.some.injEq] at h1 h2; subst h1 h2; exact hop y (by simp [Op.operands]))
  have b2 := intOfT_ok (c := c) (w := w) (v := hi.map act.eval) hh (by cases hi <;> rfl) (fun t u h1 h2 => by
    cases hi with
    | none => cases h1
    | some y => simp only [Option.map_some, Option.some.injEq] at h1 h2; subst h1 h2; exact hop y (by simp [Op.operands]))
  have b3 := intOfT_ok (c := c) (w := w) (v := mx.map act.eval) hm (by cases mx <;> rfl) (fun t u h1 h2 => by
    cases mx with
    | none => cases h1
    | some y => simp only [Option.map_some, Option.some.injEq] at h1 h2; subst h1 h2; exact hop y (by simp [Op.operands]))
  suffices H : ∃ u, (Instr.sliceAt t (act.eval x) (lo.map act.eval) (hi.map act.eval) (mx.map act.eval)).run E.P w = .ok u w ∧ RdT c w r u by
    obtain ⟨u, h1, h2⟩ := H
    refine ⟨u, ?_, h2⟩
    unfold execOp
    rw [ho]
    simp only [Sem.run_bind, h1, Result.andThen_ok, Sem.run_pure]
  generalize act.eval x = v at hx
  generalize evO E T x = tx at hx hr
  generalize lo.map act.eval = vlo at *
  generalize hi.map act.eval = vhi at *
  generalize mx.map act.eval = vmx at *
  cases hx with
  | sl g s xs _ hd' hg =>
    have hform : ∃ a n cap, v = .slice a n cap ∧ xs.length = n ∧ n ≤ cap := by
      cases hd' with
      | nil _ a cap => exact ⟨a, 0, cap, rfl, rfl, by omega⟩
      | sl _ _ b o n cap hn hc _ _ => exact ⟨_, n, cap, rfl, hn, hc⟩
    obtain ⟨a, n, cap, rfl, hn, hc⟩ := hform
    simp only [tvSlice] at hr
    split at hr
    · rename_i hs
      split at hr
      · split at hr
        · rename_i hcond
          injection hr with hr; subst hr
          have hb : bnd n cap nl none none = some ((nl.getD 0).toNat, n, cap) := by
            unfold bnd
            rw [if_pos (by simp only [Option.getD_none]; refine ⟨by simp, hcond.1, ?_, ?_, ?_, fun _ => hc⟩ <;> omega)]
            simp
          refine ⟨_, run_slice_sl (tyIs ht) hd (tyIs hj) (run_bnd b1 b2 b3 hb), ?_⟩
          have := hd'.sub_sl (l := (nl.getD 0).toNat) (h := n) (m := cap) (by omega) (Nat.le_refl _) hc
          rw [List.take_of_length_le (by omega)] at this
          refine .sl _ _ _ _ (by rw [← hs]; exact this) ?_
          cases g with
          | none => trivial
          | full =>
            have : cap = n := hg
            show cap - _ = n - _
            rw [this]
          | own k =>
            obtain ⟨hg0, hg⟩ := hg
            refine ⟨hg0, ?_⟩
            rcases hg with hg | ⟨b, p, e', z, rfl, h2, h3, h4⟩
            · exact .inl (by rw [hg])
            · by_cases hcl : cap = (nl.getD 0).toNat
              · exact .inl (by omega)
              · refine .inr ⟨b, p + (nl.getD 0).toNat * j.size, e', z, ?_, h2, ?_, ?_⟩
                · rw [if_neg hcl]; simp [addr_add]
                · rw [hs, Nat.add_assoc, ← Nat.add_mul]
                  rw [hs] at h3
                  rw [show (nl.getD 0).toNat + (n - (nl.getD 0).toNat) = n by omega]
                  exact h3
                · rw [hs, Nat.add_assoc, ← Nat.add_mul]
                  rw [hs] at h4
                  rw [show (nl.getD 0).toNat + (cap - (nl.getD 0).toNat) = cap by omega]
                  exact h4
        · cases hr
      · rename_i hh'
        split at hr
        · rename_i hcond
          injection hr with hr; subst hr
          have hb : bnd n cap nl (some hh') none = some ((nl.getD 0).toNat, hh'.toNat, cap) := by
            unfold bnd
            rw [if_pos (by simp only [Option.getD_none, Option.getD_some]; refine ⟨by simp, hcond.1, hcond.2.1, ?_, ?_, fun h => by cases h⟩ <;> omega)]
            simp
          refine ⟨_, run_slice_sl (tyIs ht) hd (tyIs hj) (run_bnd b1 b2 b3 hb), ?_⟩
          have := hd'.sub_sl (l := (nl.getD 0).toNat) (h := hh'.toNat) (m := cap) (by omega) (by omega) (by omega)
          exact .sl _ _ _ _ (by rw [← hs]; exact this) trivial
        · cases hr
      · rename_i hh' mm
        split at hr
        · rename_i hcond
          injection hr with hr; subst hr
          have hb : bnd n cap nl (some hh') (some mm) = some ((nl.getD 0).toNat, hh'.toNat, mm.toNat) := by
            unfold bnd
            rw [if_pos (by simp only [Option.getD_none, Option.getD_some]; refine ⟨by simp, hcond.1, hcond.2.1, ?_, ?_, fun h => by cases h⟩ <;> omega)]
            simp
          refine ⟨_, run_slice_sl (tyIs ht) hd (tyIs hj) (run_bnd b1 b2 b3 hb), ?_⟩
          have := hd'.sub_sl (l := (nl.getD 0).toNat) (h := hh'.toNat) (m := mm.toNat) (by omega) (by omega) (by omega)
          refine .sl _ _ _ _ (by rw [← hs]; exact this) ?_
          show mm.toNat - _ = hh'.toNat - _
          rw [hcond.2.2.1]
        · cases hr
      · cases hr
    · cases hr
  | vsN id off s a hn =>
    simp only [tvSlice] at hr
    split at hr
    · split at hr
      · rename_i hcond
        obtain ⟨hs, c1, c2, c3⟩ := hcond
        injection hr with hr; subst hr
        have z1 : (nl.getD 0).toNat = 0 := by omega
        have z2 : (nh.getD ((0 : Nat) : Int)).toNat = 0 := by omega
        have hb : bnd 0 0 nl nh none = some (0, 0, 0) := by
          unfold bnd
          rw [if_pos (by simp only [Option.getD_none]; refine ⟨by simp, c1, c2, ?_, ?_, fun _ => Nat.le_refl _⟩ <;> omega)]
          simp [z1]; omega
        refine ⟨_, run_slice_sl (tyIs ht) hd (tyIs hj) (run_bnd b1 b2 b3 hb), ?_⟩
        rw [z1, z2]
        exact .vsN _ _ _ _ hn
      · cases hr
    · cases hr
  | vs id off s len cap b e' hγ hc hz =>
    simp only [tvSlice] at hr
    split at hr
    · split at hr
      · rename_i hcond
        obtain ⟨hs, c1, c2, c3⟩ := hcond
        injection hr with hr; subst hr
        have hb : bnd len cap nl nh none = some ((nl.getD 0).toNat, (nh.getD len).toNat, cap) := by
          unfold bnd
          rw [if_pos (by simp only [Option.getD_none]; refine ⟨by simp, c1, c2, ?_, ?_, fun _ => hc⟩ <;> omega)]
          simp
        refine ⟨_, run_slice_sl (tyIs ht) hd (tyIs hj) (run_bnd b1 b2 b3 hb), ?_⟩
        rw [← hs]
        by_cases hcl : cap = (nl.getD 0).toNat
        · have z2 : (nh.getD (len : Int)).toNat - (nl.getD 0).toNat = 0 := by omega
          rw [z2, show cap - (nl.getD 0).toNat = 0 by omega]
          exact .vsN _ _ _ _ (by rw [hk.rel.cn]; exact hk.rel.dom _ _ hγ)
        · rw [if_neg hcl]
          simp only [Option.map_some, addr_add, Nat.add_assoc]
          refine .vs _ _ _ _ _ b e' hγ (by omega) ?_
          have h1 : (nl.getD 0).toNat + (cap - (nl.getD 0).toNat) = cap := by omega
          rw [← Nat.add_assoc, Nat.add_assoc (e'.1 + off), ← Nat.add_mul, h1]
          exact hz
      · cases hr
    · cases hr
  | _ => simp [tvSlice] at hr
/-- A slice of an array that lies at a place. -/
theorem q_sliceArr {E : Env} {o : Oper} {T : Nat → TV} {S : TS} {t : TypeId} {x : Operand} {lo hi : Option Operand} (ho : o.op = .slice t x lo hi none) {e n id off : Nat} {i j : TI} {nl nh : Option Int}
    (ht : tiOf E.P t = some i) (hd : i.desc = .array n e) (hj : tiOf E.P e = some j) (hl : intOfT (lo.map (evO E T)) = some nl) (hh : intOfT (hi.map (evO E T)) = some nh)
    (hx : evO E T x = .ptr id off) {et : TypeId} {cs : List TV} (hobj : S.objs id = .cells et cs) (hroom : off + n * j.size ≤ cs.length) (h0 : 0 ≤ nl.getD 0) (h1 : nl.getD 0 ≤ nh.getD n) (h2 : nh.getD n ≤ n) (h3 : nl.getD 0 < n) : QSem E o T S (.vs id (off + (nl.getD 0).toNat * j.size) j.size ((nh.getD n).toNat - (nl.getD 0).toNat)) := by
  intro w0 c w act hk hop
  rw [ho] at hop
  have hx' := hop x (by simp [Op.operands])
  rw [hx] at hx'
  have b1 := intOfT_ok (c := c) (w := w) (v := lo.map act.eval) hl (by cases lo <;> rfl) (fun t u h1 h2 => by
    cases lo with
    | none => cases h1
    | some y => simp only [Option.map_some, Option.some.injEq] at h1 h2; subst h1 h2; exact hop y (by simp [Op.operands]))
  have b2 := intOfT_ok (c := c) (w := w) (v := hi.map act.eval) hh (by cases hi <;> rfl) (fun t u h1 h2 => by
    cases hi with
    | none => cases h1
    | some y => simp only [Option.map_some, Option.some.injEq] at h1 h2; subst h1 h2; exact hop y (by simp [Op.operands]))
  have hb : bnd n n nl nh none = some ((nl.getD 0).toNat, (nh.getD n).toNat, n) := by
    unfold bnd
    rw [if_pos (by simp only [Option.getD_none]; refine ⟨by simp, h0, h1, ?_, ?_, fun _ => ?_⟩ <;> omega)]
    simp
  generalize hv : act.eval x = v at hx'
  cases hx' with
  | ptr _ _ b e' hγ =>
    have hbr := run_bnd (P := E.P) (w := w) (isS := false) b1 b2 (.inl ⟨rfl, rfl⟩) hb
    refine ⟨_, ?_, .vs _ (off + (nl.getD 0).toNat * j.size) _ _ (n - (nl.getD 0).toNat) b e' hγ (by omega) (by
      have h1 : (nl.getD 0).toNat + (n - (nl.getD 0).toNat) = n := by omega
      rw [← Nat.add_assoc, Nat.add_assoc (e'.1 + off), ← Nat.add_mul, h1]
      have := hk.rel.roomOf hobj hγ hroom
      omega)⟩
    unfold execOp
    rw [ho]
    simp only [hv, Instr.sliceAt, Sem.run_bind, (tyIs ht).run_und, Result.andThen_ok, hd, Instr.sureAddr, Sem.run_pure, Option.map_none, hbr, (tyIs hj).run_size]
    rw [if_neg (by omega)]
    simp [addr_add, Nat.add_assoc]
theorem q_sliceStr {E : Env} {o : Oper} {T : Nat → TV} {S : TS} {t : TypeId} {x : Operand} {lo hi : Option Operand} (ho : o.op = .slice t x lo hi none) {v : ByteArray} {i : TI} {nl nh : Option Int}
    (ht : tiOf E.P t = some i) (hd : i.desc = .string) (hl : intOfT (lo.map (evO E T)) = some nl) (hh : intOfT (hi.map (evO E T)) = some nh)
    (hx : evO E T x = .lit (.string v)) (h0 : 0 ≤ nl.getD 0) (h1 : nl.getD 0 ≤ nh.getD v.size) (h2 : nh.getD v.size ≤ v.size) : QSem E o T S (.lit (.string (v.extract (nl.getD 0).toNat (nh.getD v.size).toNat))) := by
  intro w0 c w act hk hop
  rw [ho] at hop
  have hx' := hop x (by simp [Op.operands])
  rw [hx] at hx'
  have ex := hx'.lit_inv
  have b1 := intOfT_ok (c := c) (w := w) (v := lo.map act.eval) hl (by cases lo <;> rfl) (fun t u h1 h2 => by
    cases lo with
    | none => cases h1
    | some y => simp only [Option.map_some, Option.some.injEq] at h1 h2; subst h1 h2; exact hop y (by simp [Op.operands]))
  have b2 := intOfT_ok (c := c) (w := w) (v := hi.map act.eval) hh (by cases hi <;> rfl) (fun t u h1 h2 => by
    cases hi with
    | none => cases h1
    | some y => simp only [Option.map_some, Option.some.injEq] at h1 h2; subst h1 h2; exact hop y (by simp [Op.operands]))
  have hb : bnd v.size v.size nl nh none = some ((nl.getD 0).toNat, (nh.getD v.size).toNat, v.size) := by
    unfold bnd
    rw [if_pos (by simp only [Option.getD_none]; refine ⟨by simp, h0, h1, ?_, ?_, fun _ => ?_⟩ <;> omega)]
    simp
  have hbr := run_bnd (P := E.P) (w := w) (isS := false) b1 b2 (.inl ⟨rfl, rfl⟩) hb
  refine ⟨_, ?_, .lit _⟩
  unfold execOp
  rw [ho]
  simp only [ex, Instr.sliceAt, Sem.run_bind, (tyIs ht).run_und, Result.andThen_ok, hd, Option.map_none, Instr.slice, Option.isSome_none, Bool.false_eq_true, if_false, hbr, Sem.run_pure]
/-! ### lengths -/
theorem q_len {E : Env} {o : Oper} {T : Nat → TV} {S : TS} {x : Operand} {t : TypeId} {ty : Array TypeId} (ho : o.op = .call { callee := .builtin .len, args := #[x], argTypes := ty }) (hty : ty[0]? = some t) {i : TI} (ht : tiOf E.P t = some i) {n : Nat}
    (h : match i.desc, evO E T x with
      | .slice _, .sl _ _ xs => n = xs.length
      | .slice _, .vs _ _ _ len => n = len
      | .string, .lit (.string v) => n = v.size
      | .array k _, _ => n = k
      | .map _ _, .lit (.map none) => n = 0
      | .map _ _, .mp id => ∃ es clock, S.objs id = .map es clock ∧ n = es.length
      | _, _ => False) : QSem E o T S (.lit (.int .i64 n)) := by
  intro w0 c w act hk hop
  rw [ho] at hop
  have hx := hop x (by simp [Op.operands, Call.operands])
  refine ⟨.int .i64 n, ?_, .lit _⟩
  unfold execOp
  rw [ho]
  simp only [resolve, Sem.run_bind, Sem.run_pure, Result.andThen_ok, invoke, builtin, Builtin.len_, hty, List.map_toArray, List.map_cons, List.map_nil, List.getElem?_toArray, List.getElem?_cons_zero, (tyIs ht).run_und]
  generalize act.eval x = v at hx
  generalize hdd : i.desc = dd at h
  generalize evO E T x = tx at hx h
  split at h
  · subst h
    cases hx with
    | sl _ _ _ _ hd _ => cases hd with
      | nil => simp [goInt]
      | sl _ _ b o n cap hn hc hm hh => subst hn; simp [goInt]
  · subst h
    cases hx with
    | vs => simp [goInt]
    | vsN => simp [goInt]
  · subst h
    have := hx.lit_inv; subst this
    simp [goInt]
  · subst h
    simp [goInt]
  · subst h
    have := hx.lit_inv; subst this
    simp [goInt]
  · obtain ⟨es, clock, h1, rfl⟩ := h
    cases hx with
    | mp id' b e hγ =>
      have hob := hk.rel.obj _ (hk.rel.dom _ _ hγ)
      rw [h1] at hob
      obtain ⟨b', e2, g1, _, ents, hh, hsz, _⟩ := hob
      rw [hγ] at g1
      injection g1 with g1; injection g1 with g1 g2; subst g1 g2
      simp [goInt, hh, hsz, getObj, Sem.run]
  · exact h.elim
end Go.Proofs.YtlljknmojafkoaaGreatDoor.TL
namespace Go.Proofs.YtlljknmojafkoaaGreatDoor.TL
open Go.RowKit
def Fin (E : Env) (w0 : World) (c : Cx) (w : World) (K : TV → TS → Prop) (v : Value) (w' : World) : Prop :=
  ∃ t c' S', Ok E w0 c' S' w' ∧ Mono c w c' w' ∧ RdT c' w' t v ∧ K t S'
def ESem (E : Env) (o : Oper) (T : Nat → TV) (S : TS) (K : TV → TS → Prop) : Prop :=
  ∀ w0 c w a, Ok E w0 c S w → Opn E c w T a o.op → ∀ (next : Act → World → Prop) (Q : Exit → Act → World → Prop),
    (∀ v w', Fin E w0 c w K v w' → next (a.put o.dst v) w') → o.wp E.P a w next Q
theorem ESem.of_run {E : Env} {o : Oper} {T : Nat → TV} {S : TS} {K : TV → TS → Prop}
    (h : ∀ w0 c w a, Ok E w0 c S w → Opn E c w T a o.op → ∃ v w', ((execOp a.eval o).run E.P w = .ok (.value v) w' ∨ ((execOp a.eval o).run E.P w = .ok .skip w' ∧ v = undef)) ∧ Fin E w0 c w K v w') : ESem E o T S K := by
  intro w0 c w a hk ho next Q hn
  obtain ⟨v, w', hr, hf⟩ := h w0 c w a hk ho
  unfold Oper.wp
  rcases hr with hr | ⟨hr, rfl⟩
  · rw [hr]; exact hn v w' hf
  · rw [hr]; exact hn undef w' hf
theorem ESem.of_quiet {E : Env} {o : Oper} {T : Nat → TV} {S : TS} {K : TV → TS → Prop} {v : TV} (h : QSem E o T S v) (hK : K v S) : ESem E o T S K :=
  .of_run fun w0 c w a hk ho =>
    let ⟨u, h1, h2⟩ := h w0 c w a hk ho
    ⟨u, w, .inl h1, v, c, S, hk, Mono.refl c w, h2, hK⟩
/-! ### cells of a value -/
def cellsT : TV → List TV
  | .agg cs => cs
  | t => [t]
def flatT : TV → Bool
  | .lit (.agg _) | .lit (.tuple _) | .unk | .tup _ | .agg _ => false
  | _ => true
/-- A value that fills one cell, or an aggregate of such. -/
def cellT : TV → Bool
  | .agg cs => cs.all flatT
  | t => flatT t
theorem flat_one {c : Cx} {w : World} {t : TV} {v : Value} (h : RdT c w t v) (hf : flatT t = true) : v.cells = #[v] ∧ v.oneCell' = true := by
  cases h with
  | lit v => cases v <;> first | (cases hf; done) | exact ⟨rfl, rfl⟩
  | sl g s xs v h hg => cases h <;> exact ⟨rfl, rfl⟩
  | unk => cases hf
  | agg => cases hf
  | tup => cases hf
  | _ => exact ⟨rfl, rfl⟩
structure RdCells (c : Cx) (w : World) (ts : List TV) (vs : Array Value) : Prop where
  size : vs.size = ts.length
  rd : ∀ (j : Nat) t v, ts[j]? = some t → vs[j]? = some v → RdT c w t v
theorem RdCells.step {c c' : Cx} {w w' : World} (m : Mono c w c' w') {ts : List TV} {vs : Array Value} (h : RdCells c w ts vs) : RdCells c' w' ts vs :=
  ⟨h.size, fun j t v h1 h2 => (h.rd j t v h1 h2).step m⟩
theorem RdCells.single {c : Cx} {w : World} {t : TV} {v : Value} (h : RdT c w t v) (hf : flatT t = true) (hc : cellsT t = [t]) : RdCells c w (cellsT t) v.cells ∧ (∀ x ∈ v.cells.toList, x.oneCell' = true) := by
  obtain ⟨h1, h2⟩ := flat_one h hf
  rw [hc, h1]
  refine ⟨⟨rfl, fun j x u hx hu => ?_⟩, fun x hx => ?_⟩
  · cases j with
    | zero => simp at hx hu; subst hx hu; exact h
    | succ j => simp at hx
  · simp at hx; subst hx; exact h2
theorem RdCells.of {c : Cx} {w : World} {t : TV} {v : Value} (h : RdT c w t v) (hf : cellT t = true) : RdCells c w (cellsT t) v.cells ∧ (∀ x ∈ v.cells.toList, x.oneCell' = true) := by
  cases t with
  | agg cs =>
    cases h with
    | agg _ vs hl hh =>
      refine ⟨⟨hl, hh⟩, fun x hx => ?_⟩
      obtain ⟨j, hj, rfl⟩ := List.getElem_of_mem hx
      simp only [Value.cells, Array.length_toList] at hj
      have hjc : j < cs.length := by omega
      have := hh j cs[j] vs[j] (List.getElem?_eq_getElem hjc) (Array.getElem?_eq_getElem hj)
      simp only [Value.cells, Array.getElem_toList]
      exact (flat_one this (List.all_eq_true.1 hf _ (List.getElem_mem hjc))).2
  | _ => exact RdCells.single h hf rfl
/-! ### a store into one cell, into several -/
theorem Rel.store1 {w0 : World} {c : Cx} {S : TS} {w : World} (h : Rel w0 c S w) {id b e off : Nat} {z : Nat × Nat} {cs : List TV} {x : TV} {v : Value} (hobj : S.objs id = .cells e cs) (hγ : c.γ id = some (b, z)) (hlt : off < cs.length) (hr : RdT c w x v) :
    Rel w0 c (S.set id (.cells e (cs.set off x))) (w.setCell ⟨b, z.1 + off, none⟩ v) ∧ Mono c w c (w.setCell ⟨b, z.1 + off, none⟩ v) := by
  have hid := h.dom _ _ hγ
  have hob := h.obj id hid
  rw [hobj] at hob
  obtain ⟨g2, ⟨arr, fr, g3, gz, gl⟩, gf, g4, g5⟩ := hob.2 b z hγ
  refine h.change id _ b z hid hγ (by rw [hobj]; rfl) g2 (by simp) ⟨rfl, rfl, rfl⟩ (fun k hk => Below.heap_setCell w _ _ k hk) (fun j ha => absurd ha (g5 j)) ?_
  refine fun m => ⟨fun hn => (by rw [hγ] at hn; cases hn), fun b2 z2 hγ2 => ?_⟩
  rw [hγ] at hγ2
  injection hγ2 with hγ2; injection hγ2 with q1 q2; subst q1 q2
  refine ⟨g2, ⟨arr.setIfInBounds (z.1 + off) v, fr, ?_, by simp [gz], by simpa using gl⟩, fun j => by rw [World.frozen?_setCell]; exact gf j, ?_, g5⟩
  · simp [World.setCell, Array.getElem?_modify, g3]
  · intro j y hy
    rw [List.getElem?_set] at hy
    by_cases hj : off = j
    · subst hj
      simp [hlt] at hy
      subst hy
      obtain ⟨u, p, _⟩ := g4 off _ (List.getElem?_eq_getElem hlt)
      exact ⟨v, World.cell?_setCell_same w ⟨b, z.1 + off, none⟩ v p, hr.step m⟩
    · rw [if_neg hj] at hy
      obtain ⟨u, p, r⟩ := g4 j y hy
      refine ⟨u, ?_, r.step m⟩
      rw [World.cell?_setCell_other w ⟨b, z.1 + off, none⟩ ⟨b, z.1 + j, none⟩ v (by intro hh; injection hh with _ hh; omega)]
      exact p
def spl : List TV → Nat → List TV → List TV
  | cs, _, [] => cs
  | cs, off, x :: xs => spl (cs.set off x) (off + 1) xs
@[simp] theorem spl_length : ∀ (xs : List TV) (cs : List TV) (off : Nat), (spl cs off xs).length = cs.length
  | [], _, _ => rfl
  | x :: xs, cs, off => by simp only [spl]; rw [spl_length xs]; simp
theorem TS.set_set (S : TS) (id : Nat) (o o' : TObj) : (S.set id o).set id o' = S.set id o' := by
  unfold TS.set
  congr 1
  funext i
  by_cases h : i = id <;> simp [h]
theorem TS.set_same (S : TS) (id : Nat) (o : TObj) (h : S.objs id = o) : S.set id o = S := by
  cases S with
  | mk objs n =>
    unfold TS.set
    congr 1
    funext i
    by_cases hi : i = id
    · simp [hi]; exact h.symm
    · simp [hi]
theorem Rel.storeN {w0 : World} {P : Program} : ∀ (vs : List Value) (xs : List TV) (i : Nat) {c : Cx} {S : TS} {w : World} {id b e off : Nat} {z : Nat × Nat} {cs : List TV}, Rel w0 c S w → S.objs id = .cells e cs → c.γ id = some (b, z) →
    off + i + xs.length ≤ cs.length → RdCells c w xs vs.toArray → (∀ x ∈ vs, x.oneCell' = true) →
    ∃ w', (storeCells ⟨b, z.1 + off, none⟩ vs i).run P w = .ok () w' ∧ Rel w0 c (S.set id (.cells e (spl cs (off + i) xs))) w' ∧ Mono c w c w'
  | [], xs, i, c, S, w, id, b, e, off, z, cs, h, hobj, hγ, hle, hr, h1 => by
    have : xs = [] := List.eq_nil_of_length_eq_zero (by have := hr.size; simpa using this.symm)
    subst this
    refine ⟨w, by simp [storeCells], ?_, Mono.refl c w⟩
    simp only [spl]
    rw [TS.set_same S id _ hobj]; exact h
  | v :: vs, [], i, c, S, w, id, b, e, off, z, cs, h, hobj, hγ, hle, hr, h1 => by have := hr.size; simp at this
  | v :: vs, x :: xs, i, c, S, w, id, b, e, off, z, cs, h, hobj, hγ, hle, hr, h1 => by
    simp only [List.length_cons] at hle
    have hlt : off + i < cs.length := by omega
    have hrv : RdT c w x v := hr.rd 0 x v (by simp) (by simp)
    obtain ⟨r1, m1⟩ := h.store1 hobj hγ hlt hrv
    have hcell := h.obj id (h.dom _ _ hγ)
    rw [hobj] at hcell
    obtain ⟨_, _, gf, g4, _⟩ := hcell.2 b z hγ
    obtain ⟨u, p, _⟩ := g4 (off + i) _ (List.getElem?_eq_getElem hlt)
    have q := gf (z.1 + (off + i)) (by have := h.roomOf hobj hγ hlt; omega)
    have hr' : RdCells c (w.setCell ⟨b, z.1 + (off + i), none⟩ v) xs vs.toArray := by
      refine ⟨by have := hr.size; simpa using this, fun j t u h2 h3 => ?_⟩
      exact (hr.rd (j + 1) t u (by simpa using h2) (by simpa using h3)).step m1
    obtain ⟨w', k1, k2, k3⟩ := Rel.storeN (P := P) (off := off) vs xs (i + 1) r1 (by rw [TS.set_objs, if_pos rfl]) hγ (by rw [List.length_set]; omega) hr' (fun y hy => h1 y (List.mem_cons_of_mem _ hy))
    refine ⟨w', ?_, ?_, m1.trans k3⟩
    · simp only [storeCells, Sem.run_bind, addr_add, Nat.add_assoc]
      rw [run_store P w _ v .plain (h1 v (by simp)), p]
      simp only [q, Bool.false_eq_true, if_false, Result.andThen_ok]
      exact k1
    · rw [TS.set_set] at k2
      exact k2
theorem e_store {E : Env} {o : Oper} {T : Nat → TV} {S : TS} {t : TypeId} {x y : Operand} (ho : o.op = .store t x y) {id off e : Nat} {cs : List TV} {i : TI} {K : TV → TS → Prop}
    (ht : tiOf E.P t = some i) (hx : evO E T x = .ptr id off) (hobj : S.objs id = .cells e cs) (hf : cellT (evO E T y) = true) (hl : (cellsT (evO E T y)).length = i.size) (hle : off + i.size ≤ cs.length)
    (hK : K .unk (S.set id (.cells e (spl cs off (cellsT (evO E T y)))))) : ESem E o T S K := by
  refine .of_run fun w0 c w a hk hop => ?_
  rw [ho] at hop
  have h1 := hop x (by simp [Op.operands])
  have h2 := hop y (by simp [Op.operands])
  rw [hx] at h1
  generalize hv : a.eval x = v at h1
  cases h1 with
  | ptr _ _ b z hγ =>
    obtain ⟨hc, h1⟩ := RdCells.of h2 hf
    obtain ⟨w', k1, k2, k3⟩ := Rel.storeN (P := E.P) (off := off) (a.eval y).cells.toList (cellsT (evO E T y)) 0 hk.rel hobj hγ (by omega) (by simpa using hc) h1
    refine ⟨undef, w', .inr ⟨?_, rfl⟩, .unk, c, _, hk.step k2 k3, k3, .unk _, hK⟩
    have hsz : (a.eval y).cells.size = i.size := by rw [hc.size, hl]
    unfold execOp
    rw [ho]
    simp only [hv, Instr.storeAt, Instr.sureAddr, storeVar, Sem.run_bind, Sem.run_pure, Result.andThen_ok, (tyIs ht).run_size]
    rw [if_neg (by omega)]
    rw [k1]
    rfl
/-! ### new variables -/
theorem Rel.newCells {w0 : World} {c : Cx} {S : TS} {w : World} (h : Rel w0 c S w) (e : TypeId) (ts : List TV) (vs : Array Value) (hr : RdCells c w ts vs) :
    ∃ c', Rel w0 c' (S.push (.cells e ts)) (w.alloc (.cells vs e)) ∧ Mono c w c' (w.alloc (.cells vs e)) ∧ c'.γ S.n = some (w.heap.size, (0, vs.size)) := by
  obtain ⟨c', r, m, g, _⟩ := h.alloc (.cells vs e) (.cells e ts) (0, vs.size) (fun _ => False) (fun j hj => hj.elim) (by
    intro c' m g hA
    refine ⟨fun hn => (by rw [g] at hn; cases hn), fun b2 z2 hγ2 => ?_⟩
    rw [g] at hγ2
    injection hγ2 with hγ2; injection hγ2 with q1 q2; subst q1 q2
    refine ⟨h.le, ⟨vs, (0, 0), heap_alloc_new w _, rfl, by simp [hr.size]⟩, fun j => by simp, ?_, fun j ha => (hA j).1 ha⟩
    intro j x hx
    have hj : j < vs.size := by
      rw [hr.size]
      rcases Nat.lt_or_ge j ts.length with h | h
      · exact h
      · rw [List.getElem?_eq_none h] at hx; cases hx
    have hv : vs[j]? = some vs[j] := Array.getElem?_eq_getElem hj
    exact ⟨vs[j], by rw [Nat.zero_add, World.cell?_alloc_new]; exact hv, (hr.rd j x _ hx hv).step m⟩)
  exact ⟨c', r, m, g⟩
theorem e_new {E : Env} {o : Oper} {T : Nat → TV} {S : TS} {e : TypeId} {t : TV} {K : TV → TS → Prop} (hf : cellT t = true)
    (hrun : ∀ w0 c w a, Ok E w0 c S w → Opn E c w T a o.op → ∃ v, RdT c w t v ∧ (execOp a.eval o).run E.P w = .ok (.value (.pointer (some ⟨w.heap.size, 0, none⟩))) (w.alloc (.cells v.cells e)))
    (hK : K (.ptr S.n 0) (S.push (.cells e (cellsT t)))) : ESem E o T S K := by
  refine .of_run fun w0 c w a hk hop => ?_
  obtain ⟨v, hv, hr⟩ := hrun w0 c w a hk hop
  obtain ⟨c', r, m, g⟩ := hk.rel.newCells e (cellsT t) v.cells (RdCells.of hv hf).1
  exact ⟨_, _, .inl hr, _, c', _, hk.step r m, m, .ptr _ _ _ _ g, hK⟩
theorem e_alloc {E : Env} {o : Oper} {T : Nat → TV} {S : TS} {e : TypeId} (ho : o.op = .alloc e) {i : TI} {K : TV → TS → Prop} (ht : tiOf E.P e = some i) (hf : cellT (ofConst i.zero) = true)
    (hK : K (.ptr S.n 0) (S.push (.cells e (cellsT (ofConst i.zero))))) : ESem E o T S K := by
  refine e_new hf (fun w0 c w a hk hop => ⟨i.zero, rd_const c w _, ?_⟩) hK
  unfold execOp
  rw [ho]
  simp only [Instr.alloc, Sem.run_bind, (tyIs ht).run_zero, Result.andThen_ok, newVar, newRow, run_newObj, Sem.run_pure]
  rfl
theorem e_box {E : Env} {o : Oper} {T : Nat → TV} {S : TS} {e : TypeId} {x : Operand} (ho : o.op = .box e x) {K : TV → TS → Prop} (hf : cellT (evO E T x) = true)
    (hK : K (.ptr S.n 0) (S.push (.cells e (cellsT (evO E T x))))) : ESem E o T S K := by
  refine e_new hf (fun w0 c w a hk hop => ?_) hK
  rw [ho] at hop
  refine ⟨a.eval x, hop x (by simp [Op.operands]), ?_⟩
  unfold execOp
  rw [ho]
  simp only [Instr.box, Sem.run_bind, newVar, newRow, run_newObj, Result.andThen_ok, Sem.run_pure]
  rfl
end Go.Proofs.YtlljknmojafkoaaGreatDoor.TL
namespace Go.Proofs.YtlljknmojafkoaaGreatDoor.TL
open Go.RowKit
/-- A datum read off a list of cells. -/
inductive RdE (A : Nat → Nat → Prop) (w : World) : D → List Value → Prop
  | one (d : D) (v : Value) (hna : d.isAgg = false) (h1 : v.oneCell' = true) (h : RdD A w d (.val v)) : RdE A w d [v]
  | agg (cs : List D) (vs : List Value) (hl : vs.length = cs.length) (hna : ∀ (j : Nat) d, cs[j]? = some d → d.isAgg = false)
      (h1 : ∀ v ∈ vs, v.oneCell' = true) (h : ∀ (j : Nat) d v, cs[j]? = some d → vs[j]? = some v → RdD A w d (.val v)) : RdE A w (.agg cs) vs
theorem RdE.step {c c' : Cx} {w w' : World} (m : Mono c w c' w') {d : D} {vs : List Value} (h : RdE c.A w d vs) : RdE c'.A w' d vs := by
  cases h with
  | one d v hna h1 h => exact .one d v hna h1 (h.step m)
  | agg cs vs hl hna h1 h => exact .agg cs vs hl hna h1 (fun j d v a b => (h j d v a b).step m)
theorem RdE.flat {A : Nat → Nat → Prop} {w : World} {d : D} {vs : List Value} (h : RdE A w d vs) : ∀ v ∈ vs, v.oneCell' = true := by
  cases h with
  | one d v hna h1 h => intro x hx; simp at hx; subst hx; exact h1
  | agg cs vs hl hna h1 h => exact h1
theorem RdD.toE {A : Nat → Nat → Prop} {w : World} {d : D} {b o s : Nat} (h : RdD A w d (.at_ b o s)) :
    ∃ vs : List Value, vs.length = s ∧ (∀ (j : Nat) v, vs[j]? = some v → w.cell? ⟨b, o + j, none⟩ = some v ∧ A b (o + j)) ∧ RdE A w d vs := by
  cases hd : d.isAgg with
  | false =>
    obtain ⟨v, hA, hc, h1, hv⟩ := h.cell_of hd
    have hs : s = 1 := by
      generalize hx : Tgt.at_ b o s = x at h
      cases h with
      | one _ _ _ v hna hA hc ho h => injection hx
      | aggAt cs _ _ hna h => cases hd
      | _ => cases hx
    refine ⟨[v], by simp [hs], ?_, .one d v hd h1 hv⟩
    intro j u hu
    cases j with
    | zero => simp at hu; subst hu; exact ⟨hc, hA⟩
    | succ j => simp at hu
  | true =>
    cases d with
    | agg cs =>
      obtain ⟨hs, hna, hh⟩ := h.agg_inv
      have hcell : ∀ j, j < cs.length → ∃ v, A b (o + j) ∧ w.cell? ⟨b, o + j, none⟩ = some v ∧ v.oneCell' = true ∧ RdD A w (cs.getD j default) (.val v) := by
        intro j hj
        have hg : cs[j]? = some (cs.getD j default) := by simp [List.getD_eq_getElem?_getD, List.getElem?_eq_getElem hj]
        exact (hh j _ hg).cell_of (hna j _ hg)
      have hch : ∃ f : Nat → Value, ∀ j, j < cs.length → A b (o + j) ∧ w.cell? ⟨b, o + j, none⟩ = some (f j) ∧ (f j).oneCell' = true ∧ RdD A w (cs.getD j default) (.val (f j)) := by
        refine ⟨fun j => (w.cell? ⟨b, o + j, none⟩).getD default, fun j hj => ?_⟩
        obtain ⟨v, h0, h1, h2, h3⟩ := hcell j hj
        simp only [h1, Option.getD_some]
        exact ⟨h0, trivial, h2, h3⟩
      obtain ⟨f, hf⟩ := hch
      refine ⟨(List.range cs.length).map f, by simp [hs], ?_, .agg cs _ (by simp) hna ?_ ?_⟩
      · intro j v hv
        simp only [List.getElem?_map] at hv
        obtain ⟨k, hk, rfl⟩ := Option.map_eq_some_iff.1 hv
        have hj : j < cs.length := by
          rcases Nat.lt_or_ge j cs.length with h | h
          · exact h
          · rw [List.getElem?_eq_none (by simpa using h)] at hk; cases hk
        rw [List.getElem?_range hj] at hk
        injection hk with hk; subst hk
        exact ⟨(hf j hj).2.1, (hf j hj).1⟩
      · intro v hv
        simp only [List.mem_map, List.mem_range] at hv
        obtain ⟨j, hj, rfl⟩ := hv
        exact (hf j hj).2.2.1
      · intro j d v hd' hv
        have hj : j < cs.length := by
          rcases Nat.lt_or_ge j cs.length with h | h
          · exact h
          · rw [List.getElem?_eq_none h] at hd'; cases hd'
        simp only [List.getElem?_map, List.getElem?_range hj, Option.map_some, Option.some.injEq] at hv
        subst hv
        have := (hf j hj).2.2.2
        rw [List.getD_eq_getElem?_getD, hd'] at this
        exact this
    | _ => cases hd
theorem RdE.at_ {A : Nat → Nat → Prop} {w : World} {d : D} {vs : List Value} (h : RdE A w d vs) {b o : Nat} (hc : ∀ (j : Nat) v, vs[j]? = some v → w.cell? ⟨b, o + j, none⟩ = some v ∧ A b (o + j)) : RdD A w d (.at_ b o vs.length) := by
  cases h with
  | one d v hna h1 h =>
    obtain ⟨h2, h3⟩ := hc 0 v rfl
    exact .one d b o v hna h3 h2 h1 h
  | agg cs vs hl hna h1 h =>
    rw [hl]
    refine .aggAt cs b o hna fun j t ht => ?_
    have hj : j < vs.length := by
      rw [hl]
      rcases Nat.lt_or_ge j cs.length with h | h
      · exact h
      · rw [List.getElem?_eq_none h] at ht; cases ht
    have hv : vs[j]? = some vs[j] := List.getElem?_eq_getElem hj
    obtain ⟨h2, h3⟩ := hc j _ hv
    exact .one t b (o + j) vs[j] (hna j t ht) h3 h2 (h1 _ (List.getElem_mem hj)) (h j t _ ht hv)
/-- Elements read off one list of cells, each of s of them. -/
structure RdEs (A : Nat → Nat → Prop) (w : World) (s : Nat) (ds : List D) (vs : List Value) : Prop where
  len : vs.length = ds.length * s
  el : ∀ (i : Nat) d, ds[i]? = some d → RdE A w d ((vs.drop (i * s)).take s)
theorem RdEs.step {c c' : Cx} {w w' : World} (m : Mono c w c' w') {s : Nat} {ds : List D} {vs : List Value} (h : RdEs c.A w s ds vs) : RdEs c'.A w' s ds vs :=
  ⟨h.len, fun i d hd => (h.el i d hd).step m⟩
theorem RdEs.nil (A : Nat → Nat → Prop) (w : World) (s : Nat) : RdEs A w s [] [] := ⟨by simp, fun i d h => by simp at h⟩
theorem RdEs.append {A : Nat → Nat → Prop} {w : World} {s : Nat} {ds es : List D} {vs us : List Value} (h : RdEs A w s ds vs) (k : RdEs A w s es us) : RdEs A w s (ds ++ es) (vs ++ us) := by
  refine ⟨by simp [h.len, k.len, Nat.add_mul], fun i d hd => ?_⟩
  rcases Nat.lt_or_ge i ds.length with hi | hi
  · rw [List.getElem?_append_left hi] at hd
    have := h.el i d hd
    have hle : i * s + s ≤ vs.length := by
      rw [h.len]
      calc i * s + s = (i + 1) * s := by rw [Nat.succ_mul]
        _ ≤ ds.length * s := Nat.mul_le_mul_right _ hi
    rw [List.drop_append_of_le_length (by omega), List.take_append_of_le_length (by simp; omega)]
    exact this
  · rw [List.getElem?_append_right hi] at hd
    have := k.el _ d hd
    have e : i * s = vs.length + (i - ds.length) * s := by
      rw [h.len, ← Nat.add_mul]; congr 1; omega
    rw [e, ← List.drop_drop, List.drop_left]
    exact this
theorem RdEs.flat {A : Nat → Nat → Prop} {w : World} {s : Nat} {ds : List D} {vs : List Value} (h : RdEs A w s ds vs) : ∀ v ∈ vs, v.oneCell' = true := by
  intro v hv
  obtain ⟨j, hj, rfl⟩ := List.getElem_of_mem hv
  have hl := h.len
  have hs : 0 < s := by
    rcases Nat.eq_zero_or_pos s with h0 | h0
    · subst h0; rw [Nat.mul_zero] at hl; omega
    · exact h0
  have hi : j / s < ds.length := by
    rw [Nat.div_lt_iff_lt_mul hs]; omega
  have := (h.el (j / s) _ (List.getElem?_eq_getElem hi)).flat
  apply this
  rw [List.mem_iff_getElem?]
  refine ⟨j % s, ?_⟩
  rw [List.getElem?_take, if_pos (Nat.mod_lt _ hs), List.getElem?_drop]
  rw [Nat.mul_comm, Nat.div_add_mod]
  exact List.getElem?_eq_getElem hj
/-- A slice's elements as cells. -/
theorem RdD.cells_of {A : Nat → Nat → Prop} {w : World} {s : Nat} {xs : List D} {a : Option Addr} {n cap : Nat} (h : RdD A w (.sl s xs) (.val (.slice a n cap))) :
    ∃ vs : List Value, RdEs A w s xs vs ∧ xs.length = n ∧ n ≤ LIM ∧ (n = 0 ∨ ∃ b o, a = some ⟨b, o, none⟩ ∧ ∀ (j : Nat) v, vs[j]? = some v → w.cell? ⟨b, o + j, none⟩ = some v) := by
  cases h with
  | nil _ _ _ => exact ⟨[], .nil A w s, rfl, by simp, .inl rfl⟩
  | sl _ _ b o _ _ hn hc hm hh =>
    have key : ∀ k, k ≤ xs.length → ∃ vs : List Value, RdEs A w s (xs.take k) vs ∧ ∀ (j : Nat) v, vs[j]? = some v → w.cell? ⟨b, o + j, none⟩ = some v := by
      intro k
      induction k with
      | zero => exact fun _ => ⟨[], by simpa using RdEs.nil A w s, fun j v h => by simp at h⟩
      | succ k ih =>
        intro hk
        obtain ⟨vs, h1, h2⟩ := ih (by omega)
        have hx : xs[k]? = some xs[k] := List.getElem?_eq_getElem (by omega)
        obtain ⟨us, g1, g2, g3⟩ := (hh k _ hx).toE
        have hl : vs.length = k * s := by rw [h1.len, List.length_take, Nat.min_eq_left (by omega)]
        refine ⟨vs ++ us, ?_, ?_⟩
        · rw [List.take_succ_eq_append_getElem (by omega)]
          refine h1.append ⟨by simp [g1], fun i d hd => ?_⟩
          cases i with
          | zero =>
            simp at hd; subst hd
            rw [Nat.zero_mul, List.drop_zero, List.take_of_length_le (by omega)]
            exact g3
          | succ i => simp at hd
        · intro j v hv
          rcases Nat.lt_or_ge j vs.length with hj | hj
          · rw [List.getElem?_append_left hj] at hv; exact h2 j v hv
          · rw [List.getElem?_append_right hj] at hv
            have := (g2 _ v hv).1
            rw [show o + k * s + (j - vs.length) = o + j by omega] at this
            exact this
    obtain ⟨vs, h1, h2⟩ := key xs.length (Nat.le_refl _)
    rw [List.take_length] at h1
    exact ⟨vs, h1, hn, hm, .inr ⟨b, o, rfl, h2⟩⟩
/-- Elements that lie as cells at a place make a slice. -/
theorem RdEs.sl {A : Nat → Nat → Prop} {w : World} {s : Nat} {xs : List D} {vs : List Value} (h : RdEs A w s xs vs) {b o n cap : Nat} (hn : xs.length = n) (hc : n ≤ cap) (hm : n ≤ LIM)
    (hp : ∀ (j : Nat) v, vs[j]? = some v → w.cell? ⟨b, o + j, none⟩ = some v ∧ A b (o + j)) : RdD A w (.sl s xs) (.val (.slice (some ⟨b, o, none⟩) n cap)) := by
  refine .sl s xs b o n cap hn hc hm fun i t ht => ?_
  have hi : i < xs.length := by
    rcases Nat.lt_or_ge i xs.length with h | h
    · exact h
    · rw [List.getElem?_eq_none h] at ht; cases ht
  have hle : i * s + s ≤ vs.length := by
    rw [h.len]
    calc i * s + s = (i + 1) * s := by rw [Nat.succ_mul]
      _ ≤ xs.length * s := Nat.mul_le_mul_right _ hi
  have e := h.el i t ht
  have := e.at_ (b := b) (o := o + i * s) (fun j v hv => by
    rw [List.getElem?_take] at hv
    split at hv
    · rw [List.getElem?_drop] at hv
      have := hp _ v hv
      rwa [← Nat.add_assoc] at this
    · cases hv)
  rwa [List.length_take, List.length_drop, Nat.min_eq_left (by omega)] at this
end Go.Proofs.YtlljknmojafkoaaGreatDoor.TL
namespace Go.Proofs.YtlljknmojafkoaaGreatDoor.TL
open Go.RowKit
def toD1 : TV → Option D
  | .lit v => some (.lit v)
  | .sl _ s xs => some (.sl s xs)
  | _ => none
def toDs : List TV → Option (List D)
  | [] => some []
  | t :: ts =>
    match toD1 t, toDs ts with
    | some d, some ds => some (d :: ds)
    | _, _ => none
def toD : TV → Option D
  | .agg cs => (toDs cs).map .agg
  | t => toD1 t
/-- n elements of s cells each. -/
def chunks (ag : Bool) (s : Nat) : Nat → List TV → Option (List D)
  | 0, _ => some []
  | n + 1, cs =>
    match (if ag then (toDs (cs.take s)).map .agg else (cs.head?).bind toD1), chunks ag s n (cs.drop s) with
    | some d, some ds => some (d :: ds)
    | _, _ => none
theorem toD1_ok {c : Cx} {w : World} {t : TV} {d : D} {v : Value} (h : toD1 t = some d) (hr : RdT c w t v) : RdD c.A w d (.val v) ∧ d.isAgg = false := by
  cases t with
  | lit u => injection h with h; subst h; have := hr.lit_inv; subst this; exact ⟨.lit _, rfl⟩
  | sl g s xs => injection h with h; subst h; cases hr with | sl _ _ _ _ h _ => exact ⟨h, rfl⟩
  | _ => cases h
theorem toDs_ok : ∀ (ts : List TV) {ds : List D}, toDs ts = some ds → ds.length = ts.length ∧ ∀ (j : Nat) d, ds[j]? = some d → ∃ t, ts[j]? = some t ∧ toD1 t = some d
  | [], ds, h => by injection h with h; subst h; exact ⟨rfl, fun j d h => by simp at h⟩
  | t :: ts, ds, h => by
    simp only [toDs] at h
    split at h
    · rename_i d ds' h1 h2
      injection h with h; subst h
      obtain ⟨g1, g2⟩ := toDs_ok ts h2
      refine ⟨by simp [g1], fun j d' hd => ?_⟩
      cases j with
      | zero => simp at hd; subst hd; exact ⟨t, by simp, h1⟩
      | succ j => simp at hd; simpa using g2 j d' hd
    · cases h
theorem chunks_ok {c : Cx} {w : World} {ag : Bool} {s : Nat} (hs : ag = false → s = 1) : ∀ (n : Nat) (cs : List TV) (vs : List Value) {ds : List D}, chunks ag s n cs = some ds → n * s ≤ cs.length → vs.length = n * s →
    (∀ (j : Nat) t v, cs[j]? = some t → vs[j]? = some v → RdT c w t v ∧ v.oneCell' = true) → RdEs c.A w s ds vs ∧ ds.length = n
  | 0, cs, vs, ds, h, hl, hv, hr => by
    injection h with h; subst h
    rw [Nat.zero_mul] at hv
    rw [List.eq_nil_of_length_eq_zero hv]
    exact ⟨.nil _ _ _, rfl⟩
  | n + 1, cs, vs, ds, h, hl, hv, hr => by
    simp only [chunks] at h
    rw [Nat.succ_mul] at hl hv
    split at h
    · rename_i d ds' h1 h2
      injection h with h; subst h
      obtain ⟨g1, g2⟩ := chunks_ok (c := c) (w := w) hs n (cs.drop s) (vs.drop s) h2 (by simp; omega) (by simp; omega) (fun j t v a b => by
        rw [List.getElem?_drop] at a b; exact hr _ t v a b)
      have hd : RdE c.A w d (vs.take s) := by
        cases ag with
        | true =>
          simp only [if_true] at h1
          obtain ⟨es, he, rfl⟩ := Option.map_eq_some_iff.1 h1
          obtain ⟨k1, k2⟩ := toDs_ok _ he
          refine .agg es _ (by rw [k1]; simp; omega) ?_ ?_ ?_
          · intro j d hd
            obtain ⟨t, _, ht⟩ := k2 j d hd
            cases t <;> simp [toD1] at ht <;> (try subst ht) <;> rfl
          · intro v hvm
            obtain ⟨j, hj, rfl⟩ := List.getElem_of_mem hvm
            simp only [List.length_take] at hj
            have hjv : (vs.take s)[j]? = some ((vs.take s)[j]) := List.getElem?_eq_getElem (by simp; omega)
            rw [List.getElem?_take, if_pos (by omega)] at hjv
            exact (hr j (cs[j]'(by omega)) _ (List.getElem?_eq_getElem (by omega)) hjv).2
          · intro j d v hd hvj
            obtain ⟨t, h3, h4⟩ := k2 j d hd
            rw [List.getElem?_take] at h3 hvj
            split at h3
            · rw [if_pos (by assumption)] at hvj
              exact (toD1_ok h4 (hr j t v h3 hvj).1).1
            · cases h3
        | false =>
          have h1s := hs rfl
          subst h1s
          simp only [Bool.false_eq_true, if_false] at h1
          cases cs with
          | nil => cases h1
          | cons t ts =>
            simp only [List.head?_cons, Option.bind_some] at h1
            cases vs with
            | nil => simp at hv
            | cons v vs' =>
              obtain ⟨r1, r2⟩ := hr 0 t v (by simp) (by simp)
              obtain ⟨k1, k2⟩ := toD1_ok h1 r1
              simpa using RdE.one d v k2 r2 k1
      refine ⟨⟨by rw [hv]; simp [g2, Nat.add_mul], fun i d' hd' => ?_⟩, by simp [g2]⟩
      cases i with
      | zero => simp at hd'; subst hd'; simpa using hd
      | succ i =>
        simp at hd'
        have := g1.el i d' hd'
        rwa [List.drop_drop, Nat.add_comm s, ← Nat.succ_mul] at this
    · cases h
def bytesD (v : ByteArray) : List D := v.data.toList.map fun b => .lit (.int .u8 b.toNat)
/-- The elements that are appended, or copied from. -/
def srcD (S : TS) (ag : Bool) (size : Nat) : TV → Option (List D)
  | .sl _ s ys => if s = size then some ys else if ys.isEmpty then some [] else none
  | .lit (.string b) => if size = 1 ∧ b.size ≤ LIM then some (bytesD b) else none
  | .vs id off s len =>
    match S.objs id with
    | .cells _ cs => if s = size ∧ off + len * s ≤ cs.length ∧ (ag = false → s = 1) ∧ (cs.all flatT = true) ∧ len ≤ LIM then chunks ag s len (cs.drop off) else none
    | _ => none
  | _ => none
theorem srcD_ok {E : Env} {w0 : World} {c : Cx} {S : TS} {w : World} (hk : Ok E w0 c S w) {ag : Bool} {size : Nat} {t : TV} {v : Value} {ys : List D} (hr : RdT c w t v) (h : srcD S ag size t = some ys) :
    ∃ news : List Value, (∀ w2, (Builtin.lenOf v).run E.P w2 = .ok ys.length w2) ∧ (∀ w2 : World, w2.heap = w.heap → (Builtin.firstCells size ys.length v).run E.P w2 = .ok news.toArray w2) ∧
      RdEs c.A w size ys news ∧ ys.length ≤ LIM ∧ ¬ (∃ k n, v = .int k n) := by
  have hcell : ∀ (w2 : World) (a : Addr), w2.heap = w.heap → w2.cell? a = w.cell? a := fun w2 a h => by unfold World.cell?; rw [h]
  cases hr with
  | sl g s xs v h' _ =>
    simp only [srcD] at h
    have hform : ∃ a n cap, v = .slice a n cap ∧ xs.length = n := by
      cases h' with
      | nil _ a cap => exact ⟨a, 0, cap, rfl, rfl⟩
      | sl _ _ b o n cap hn hc _ _ => exact ⟨_, n, cap, rfl, hn⟩
    obtain ⟨a, n, cap, rfl, hn⟩ := hform
    split at h
    · rename_i hs
      injection h with h; subst h
      obtain ⟨vs, h1, h2, h3, h4⟩ := h'.cells_of
      rw [hs] at h1
      refine ⟨vs, fun w2 => by simp [Builtin.lenOf, h2], fun w2 hw => ?_, h1, by omega, by simp⟩
      rcases h4 with h4 | ⟨b, o, rfl, h4⟩
      · have : xs = [] := List.eq_nil_of_length_eq_zero (by omega)
        subst this
        have : vs = [] := List.eq_nil_of_length_eq_zero (by have := h1.len; simpa using this)
        subst this
        cases a with
        | none => simp [Builtin.firstCells]
        | some a => simp [Builtin.firstCells, loadCells, loadCellsFrom]
      · rw [h2]
        refine run_firstCells_some w2 size n ⟨b, o, none⟩ n cap vs (by rw [h1.len, h2]) fun j v hv => ?_
        rw [addr_add, hcell w2 _ hw]; exact h4 j v hv
    · split at h
      · rename_i he
        have : xs = [] := by simpa using he
        subst this
        injection h with h; subst h
        simp at hn
        subst hn
        refine ⟨[], fun w2 => by simp [Builtin.lenOf], fun w2 hw => ?_, .nil _ _ _, by simp, by simp⟩
        cases a with
        | none => simp [Builtin.firstCells]
        | some a => simp [Builtin.firstCells, loadCells, loadCellsFrom]
      · cases h
  | lit v =>
    cases v with
    | string b =>
      simp only [srcD] at h
      split at h
      · rename_i hs
        injection h with h; subst h
        have hl : (bytesD b).length = b.size := by simp [bytesD]
        refine ⟨b.data.toList.map fun x => .int .u8 x.toNat, fun w2 => by simp [Builtin.lenOf, hl], fun w2 hw => ?_, ⟨by rw [hs.1]; simp [bytesD], fun i d hd => ?_⟩, by omega, by simp⟩
        · simp only [Builtin.firstCells, hl, Sem.run_pure]
          congr 1
          have : (b.extract 0 b.size) = b := by simp
          rw [this]
          apply Array.ext'
          simp
        · rw [hs.1, Nat.mul_one]
          simp only [bytesD, List.getElem?_map] at hd
          obtain ⟨x, hx, rfl⟩ := Option.map_eq_some_iff.1 hd
          have hx' : i < b.data.toList.length := by
            rcases Nat.lt_or_ge i b.data.toList.length with h | h
            · exact h
            · rw [List.getElem?_eq_none h] at hx; cases hx
          have e : (List.drop i (List.map (fun x : UInt8 => Value.int .u8 x.toNat) b.data.toList)).take 1 = [Value.int .u8 x.toNat] := by
            rw [List.drop_eq_getElem_cons (by simpa using hx')]
            simp only [List.take_succ_cons, List.take_zero, List.getElem_map, List.cons.injEq, and_true]
            rw [List.getElem?_eq_getElem hx'] at hx
            injection hx with hx
            rw [hx]
          rw [e]
          exact .one _ _ rfl rfl (.lit _)
      · cases h
    | _ => cases h
  | vsN id off s a =>
    simp only [srcD] at h
    split at h
    · rename_i e cs hobj
      split at h
      · rw [chunks] at h
        injection h with h; subst h
        refine ⟨[], fun w2 => by simp [Builtin.lenOf], fun w2 hw => ?_, .nil _ _ _, by simp, by simp⟩
        cases a with
        | none => simp [Builtin.firstCells]
        | some a => simp [Builtin.firstCells, loadCells, loadCellsFrom]
      · cases h
    · cases h
  | vs id off s len cap b z hγ hc hz =>
    simp only [srcD] at h
    split at h
    · rename_i e cs hobj
      split at h
      · rename_i hcond
        obtain ⟨hs, h2, h3, h4, h5⟩ := hcond
        subst hs
        have hob := hk.rel.obj id (hk.rel.dom _ _ hγ)
        rw [hobj] at hob
        obtain ⟨_, _, _, g4, _⟩ := hob.2 b z hγ
        have hch : ∃ f : Nat → Value, ∀ j, j < len * s → w.cell? ⟨b, z.1 + off + j, none⟩ = some (f j) ∧ ∃ x, cs[off + j]? = some x ∧ RdT c w x (f j) ∧ (f j).oneCell' = true := by
          refine ⟨fun j => (w.cell? ⟨b, z.1 + off + j, none⟩).getD default, fun j hj => ?_⟩
          have hlt : off + j < cs.length := by omega
          obtain ⟨v, k1, k2⟩ := g4 (off + j) _ (List.getElem?_eq_getElem hlt)
          rw [← Nat.add_assoc] at k1
          simp only [k1, Option.getD_some]
          exact ⟨trivial, _, List.getElem?_eq_getElem hlt, k2, (flat_one k2 (List.all_eq_true.1 h4 _ (List.getElem_mem hlt))).2⟩
        obtain ⟨f, hf⟩ := hch
        obtain ⟨k1, k2⟩ := chunks_ok (c := c) (w := w) (fun ha => by rw [h3 ha]) len (cs.drop off) ((List.range (len * s)).map f) h (by simp; omega) (by simp) (fun j t v a1 a2 => by
          have hj : j < len * s := by
            rcases Nat.lt_or_ge j (len * s) with h | h
            · exact h
            · rw [List.getElem?_eq_none (by simpa using h)] at a2; cases a2
          rw [List.getElem?_drop] at a1
          simp only [List.getElem?_map, List.getElem?_range hj, Option.map_some, Option.some.injEq] at a2
          subst a2
          obtain ⟨_, x, hx, hx2, hx3⟩ := hf j hj
          rw [hx] at a1; injection a1 with a1; subst a1
          exact ⟨hx2, hx3⟩)
        refine ⟨_, fun w2 => by simp [Builtin.lenOf, k2], fun w2 hw => ?_, k1, by omega, by simp⟩
        rw [k2]
        refine run_firstCells_some w2 s len ⟨b, z.1 + off, none⟩ len cap _ (by simp) fun j v hv => ?_
        have hj : j < len * s := by
          rcases Nat.lt_or_ge j (len * s) with h | h
          · exact h
          · rw [List.getElem?_eq_none (by simpa using h)] at hv; cases hv
        simp only [List.getElem?_map, List.getElem?_range hj, Option.map_some, Option.some.injEq] at hv
        subst hv
        rw [addr_add, hcell w2 _ hw]; exact (hf j hj).1
      · cases h
    · cases h
  | _ => cases h
end Go.Proofs.YtlljknmojafkoaaGreatDoor.TL
namespace Go.Proofs.YtlljknmojafkoaaGreatDoor.TL
open Go.RowKit
theorem run_append_fits {P : Program} {w : World} {t u ty e : TypeId} {i j iu : TI} (ht : TyIs P t i) (hd : i.desc = .slice e) (hj : TyIs P e j) (hu : TyIs P u iu) (hnu : ∀ k, iu.desc ≠ .int k)
    (base : Option Addr) (n cap : Nat) (x : Value) (m : Nat) (news : List Value) (hlen : ∀ w2, (Builtin.lenOf x).run P w2 = .ok m w2) (hfirst : (Builtin.firstCells j.size m x).run P w = .ok news.toArray w) (hle : n + m ≤ cap) :
    (Builtin.append_ #[t, u] ty #[.slice base n cap, x]).run P w = ((match base with | some a => storeCells (a.add (n * j.size)) news | none => pure () : Sem Unit).run P w).andThen fun _ w' => .ok (.slice base (n + m) cap) w' := by
  have hz : (match iu.desc with | .int _ => true | _ => false) = false := by
    cases hh : iu.desc <;> first | rfl | exact absurd hh (hnu _)
  unfold Builtin.append_
  simp only [List.getElem?_toArray, List.getElem?_cons_zero, List.getElem?_cons_succ, Sem.run_bind, ht.run_und, Result.andThen_ok, hd, hj.run_size, hu.run_und, Sem.run_pure, hz, Bool.false_eq_true, if_false, hlen, Bool.not_false, if_true]
  rw [if_pos hle]
  simp only [Sem.run_bind, hfirst, Result.andThen_ok]
  cases base <;> simp
theorem run_append_grows {P : Program} {w : World} {t u ty e : TypeId} {i j iu : TI} (ht : TyIs P t i) (hd : i.desc = .slice e) (hj : TyIs P e j) (hu : TyIs P u iu) (hnu : ∀ k, iu.desc ≠ .int k)
    (base : Option Addr) (n cap : Nat) (x : Value) (m : Nat) (olds news : List Value) (hlen : ∀ w2, (Builtin.lenOf x).run P w2 = .ok m w2) (hfirst : (Builtin.firstCells j.size m x).run P w.drew = .ok news.toArray w.drew)
    (hold : (Builtin.firstCells j.size n (.slice base n cap)).run P w.drew = .ok olds.toArray w.drew) (hg : ¬ n + m ≤ cap) (h63 : ((n + m : Nat) : Int) ≤ 9223372036854775807) (hfit : Builtin.nextslicecap (n + m) cap * j.bytes ≤ 281474976710656) :
    (Builtin.append_ #[t, u] ty #[.slice base n cap, x]).run P w =
      .ok (.slice (some ⟨w.heap.size, 0, none⟩) (n + m) (grownCap w (n + m) cap e)) (w.drew.alloc (.cells (olds.toArray ++ news.toArray ++ Builtin.zeroCells j.zero.cells (grownCap w (n + m) cap e - (n + m))) e)) := by
  have hz : (match iu.desc with | .int _ => true | _ => false) = false := by
    cases hh : iu.desc <;> first | rfl | exact absurd hh (hnu _)
  obtain ⟨inf, hi, _, hb, _⟩ := hj.inf
  unfold Builtin.append_
  simp only [List.getElem?_toArray, List.getElem?_cons_zero, List.getElem?_cons_succ, Sem.run_bind, ht.run_und, Result.andThen_ok, hd, hj.run_size, hu.run_und, Sem.run_pure, hz, Bool.false_eq_true, if_false, hlen, Bool.not_false, if_true]
  rw [if_neg hg]
  have h1 : ¬ (((n + m : Nat) : Int) > IntKind.i64.max) := by
    have : IntKind.i64.max = 9223372036854775807 := rfl
    omega
  simp only [Sem.run_bind, run_typeInfo' hi, Result.andThen_ok, hb, Bool.false_eq_true, false_or]
  rw [if_neg (by intro hh; exact h1 hh.1)]
  simp only [Sem.run_bind, run_typeInfo' hi, Result.andThen_ok, hb]
  rw [if_neg (by omega)]
  simp only [Sem.run_bind, Sem.run_pure, Result.andThen_ok, run_choose, Question.forced, Bool.false_eq_true, if_false, run_askRoom, run_typeInfo' hi, World.drew_eq, hold, hfirst, hj.run_zero, newRow, run_newObj, World.alloc_eq, grownCap]
  rfl
theorem grown_ge (w : World) (need old e : Nat) : need ≤ grownCap w need old e := grownCap_ge w need old e
/-- In place: cells behind a row's end are written; the row ends further on. -/
theorem Rel.extend {w0 : World} {c : Cx} {S : TS} {w : World} (h : Rel w0 c S w) {k b e z m : Nat} (hk : S.objs k = .lin) (hγ : c.γ k = some (b, e, z)) (vs : List Value) (hm : vs.length = m) (hz : e + m ≤ z)
    (h1 : ∀ v ∈ vs, v.oneCell' = true) {P : Program} :
    ∃ c' w', (storeCells ⟨b, e, none⟩ vs).run P w = .ok () w' ∧ Rel w0 c' ((S.set k .gone).push .lin) w' ∧ Mono c w c' w' ∧ c'.γ S.n = some (b, e + m, z) ∧
      (∀ (j : Nat) v, vs[j]? = some v → w'.cell? ⟨b, e + j, none⟩ = some v ∧ c'.A b (e + j)) := by
  have hkn := h.dom _ _ hγ
  have hob := h.obj k hkn
  rw [hk] at hob
  obtain ⟨g1, ⟨cs, t, fr, g2, g3⟩, g4, g5⟩ := hob b (e, z) hγ
  simp only at g3 g4 g5
  have hcellE : ∀ j, j < z → (w.cell? ⟨b, j, none⟩).isSome = true := by
    intro j hj
    simp [World.cell?, g2]
    omega
  have hrun := run_storeCells_cells (P := P) b e vs 0 w (fun j hj => by rw [Nat.add_zero]; exact hcellE _ (by omega)) (fun j hj => by rw [Nat.add_zero]; exact g4 _ (by omega) (by omega)) h1
  rw [Nat.add_zero] at hrun
  have hin := World.cell?_setCells_in b vs e w (fun j hj => hcellE _ (by omega))
  have hout := World.cell?_setCells_out b vs e w
  have hfro := World.frozen?_setCells b vs e w
  have hheap : ∀ (vs : List Value) (o : Nat) (w : World), (∀ i, i ≠ b → (w.setCells b o vs).heap[i]? = w.heap[i]?) ∧ (w.setCells b o vs).heap.size = w.heap.size ∧ (w.setCells b o vs).os = w.os ∧ (w.setCells b o vs).tape = w.tape ∧ (w.setCells b o vs).output = w.output ∧
      (∀ cs t fr, w.heap[b]? = some (.cells cs t fr) → ∃ cs', (w.setCells b o vs).heap[b]? = some (.cells cs' t fr) ∧ cs'.size = cs.size) := by
    intro vs
    induction vs with
    | nil => intro o w; exact ⟨fun _ _ => rfl, rfl, rfl, rfl, rfl, fun cs t fr h => ⟨cs, h, rfl⟩⟩
    | cons v vs ih =>
      intro o w
      simp only [World.setCells]
      obtain ⟨a1, a2, a3, a4, a5, a6⟩ := ih (o + 1) (w.setCell ⟨b, o, none⟩ v)
      refine ⟨fun i hi => by rw [a1 i hi]; exact Below.heap_setCell w _ _ i hi, by rw [a2]; simp, a3, a4, a5, fun cs t fr hcs => ?_⟩
      obtain ⟨cs', b1, b2⟩ := a6 (cs.setIfInBounds o v) t fr (by simp [World.setCell, Array.getElem?_modify, hcs])
      exact ⟨cs', b1, by rw [b2]; simp⟩
  obtain ⟨a1, a2, a3, a4, a5, a6⟩ := hheap vs e w
  let w' := w.setCells b e vs
  let c' : Cx := { A := fun b' j => c.A b' j ∨ (b' = b ∧ e ≤ j ∧ j < e + m), γ := fun i => if i = S.n then some (b, e + m, z) else c.γ i, n := S.n + 1 }
  have hnot : ∀ j, c.A b j → j < e := fun j ha => by
    rcases Nat.lt_or_ge j e with h' | h'
    · exact h'
    · exact absurd ha (g5 j h')
  have hcellA : ∀ b' j, c.A b' j → w'.cell? ⟨b', j, none⟩ = w.cell? ⟨b', j, none⟩ := by
    intro b' j ha
    refine hout ⟨b', j, none⟩ (fun hb _ => ?_)
    simp only at hb
    subst hb
    exact .inl (hnot j ha)
  have mm : Mono c w c' w' := ⟨fun _ _ ha => .inl ha, hcellA, fun id x hx => by
    have := h.dom id x hx
    show (if id = S.n then _ else _) = _
    rw [if_neg (by omega)]; exact hx, by have := h.cn; show c.n ≤ S.n + 1; omega⟩
  have hval : ∀ (j : Nat) v, vs[j]? = some v → w'.cell? ⟨b, e + j, none⟩ = some v ∧ c'.A b (e + j) := by
    intro j v hv
    have hj : j < vs.length := by
      rcases Nat.lt_or_ge j vs.length with h | h
      · exact h
      · rw [List.getElem?_eq_none h] at hv; cases hv
    rw [List.getElem?_eq_getElem hj] at hv
    injection hv with hv
    exact ⟨by rw [← hv]; exact hin j hj, .inr ⟨rfl, by omega, by omega⟩⟩
  refine ⟨c', w', hrun, ⟨?_, ?_, ?_, ?_, ?_, ?_, rfl⟩, mm, if_pos rfl, hval⟩
  · exact h.below.trans ⟨a3, a4, a5, Nat.le_of_eq a2.symm, fun i hi => a1 i (by omega)⟩
  · intro id x hx
    show id < S.n + 1
    by_cases hi : id = S.n
    · omega
    · have : c.γ id = some x := by simpa [c', hi] using hx
      have := h.dom id x this; omega
  · intro id hid
    have hid' : id < S.n + 1 := hid
    rw [TS.push_objs, TS.set_n]
    by_cases hi : id = S.n
    · rw [if_pos hi]
      subst hi
      intro b' e' hb'
      have : some (b, e + m, z) = some (b', e') := by rw [← hb']; exact (if_pos rfl).symm
      injection this with this; injection this with t1 t2; subst t1 t2
      obtain ⟨cs', f1, f2⟩ := a6 cs t fr g2
      refine ⟨g1, ⟨cs', t, fr, f1, by simp only; omega⟩, fun j hj hj2 => ?_, fun j hj ha => ?_⟩
      · simp only at hj hj2
        rw [hfro]; exact g4 j (by omega) hj2
      · simp only at hj
        rcases ha with ha | ⟨_, _, ha⟩
        · exact absurd ha (g5 j (by omega))
        · omega
    · rw [if_neg hi, TS.set_objs]
      by_cases hik : id = k
      · rw [if_pos hik]; trivial
      · rw [if_neg hik]
        refine (h.obj id (by omega)).keep mm (by simp [c', hi]) ?_
        intro hl b' e' hb'
        have hbb : b' ≠ b := by
          intro hbb; subst hbb
          exact hik (h.inj id k b' e' (e, z) (by omega) hkn hl (by rw [hk]; rfl) hb' hγ)
        refine ⟨a1 b' hbb, ?_⟩
        rintro j (ha | ⟨hb2, _⟩)
        · exact ha
        · exact absurd hb2 hbb
  · intro i j b1 e1 e2 hi hj li lj gi gj
    have hi' : i < S.n + 1 := hi
    have hj' : j < S.n + 1 := hj
    rw [TS.push_objs, TS.set_n] at li lj
    by_cases hin' : i = S.n
    · by_cases hjn : j = S.n
      · omega
      · rw [if_neg hjn, TS.set_objs] at lj
        have gi' : b = b1 := by
          have : some (b, e + m, z) = some (b1, e1) := by rw [← gi, hin']; exact (if_pos rfl).symm
          injection this with this; injection this
        have gj' : c.γ j = some (b1, e2) := by simpa [c', hjn] using gj
        by_cases hjk : j = k
        · rw [if_pos hjk] at lj; cases lj
        · rw [if_neg hjk] at lj
          subst gi'
          exact absurd (h.inj j k b e2 (e, z) (by omega) hkn lj (by rw [hk]; rfl) gj' hγ) hjk
    · rw [if_neg hin', TS.set_objs] at li
      have gi' : c.γ i = some (b1, e1) := by simpa [c', hin'] using gi
      by_cases hik : i = k
      · rw [if_pos hik] at li; cases li
      · rw [if_neg hik] at li
        by_cases hjn : j = S.n
        · have gj' : b = b1 := by
            have : some (b, e + m, z) = some (b1, e2) := by rw [← gj, hjn]; exact (if_pos rfl).symm
            injection this with this; injection this
          subst gj'
          exact absurd (h.inj i k b e1 (e, z) (by omega) hkn li (by rw [hk]; rfl) gi' hγ) hik
        · rw [if_neg hjn, TS.set_objs] at lj
          have gj' : c.γ j = some (b1, e2) := by simpa [c', hjn] using gj
          by_cases hjk : j = k
          · rw [if_pos hjk] at lj; cases lj
          · rw [if_neg hjk] at lj
            exact h.inj i j b1 e1 e2 (by omega) (by omega) li lj gi' gj'
  · rintro b' j (ha | ⟨rfl, hj1, hj2⟩)
    · obtain ⟨v, hv⟩ := h.cell b' j ha
      exact ⟨v, (hcellA b' j ha).trans hv⟩
    · have hj : j - e < vs.length := by omega
      have := (hval (j - e) _ (List.getElem?_eq_getElem hj)).1
      rw [show e + (j - e) = j by omega] at this
      exact ⟨_, this⟩
  · intro id hid
    have hid' : S.n + 1 ≤ id := hid
    rw [TS.push_objs, TS.set_n, if_neg (by omega), TS.set_objs, if_neg (by omega)]
    exact h.wf id (by omega)
/-- A row of which nothing is known to lie anywhere. -/
theorem Rel.virtual {w0 : World} {c : Cx} {S : TS} {w : World} (h : Rel w0 c S w) : ∃ c', Rel w0 c' (S.push .lin) w ∧ Mono c w c' w ∧ c'.γ S.n = none := by
  have hn : c.γ S.n = none := by
    cases hg : c.γ S.n with
    | none => rfl
    | some x => have := h.dom _ _ hg; omega
  have m : Mono c w { c with n := S.n + 1 } w := ⟨fun _ _ h => h, fun _ _ _ => rfl, fun _ _ h => h, by have := h.cn; show c.n ≤ S.n + 1; omega⟩
  refine ⟨{ c with n := S.n + 1 }, ⟨h.below, fun id x hx => by have := h.dom id x hx; show id < S.n + 1; omega, ?_, ?_, h.cell, ?_, rfl⟩, m, hn⟩
  · intro id hid
    have hid' : id < S.n + 1 := hid
    rw [TS.push_objs]
    by_cases hi : id = S.n
    · rw [if_pos hi]; intro b e hb; rw [hi] at hb; rw [show ({ c with n := S.n + 1 } : Cx).γ S.n = none from hn] at hb; cases hb
    · rw [if_neg hi]; exact (h.obj id (by omega)).keep m rfl (fun _ b e _ => ⟨rfl, fun _ h => h⟩)
  · intro i j b e1 e2 hi hj li lj gi gj
    have h1 := h.dom _ _ gi
    have h2 := h.dom _ _ gj
    rw [TS.push_objs, if_neg (by omega)] at li
    rw [TS.push_objs, if_neg (by omega)] at lj
    exact h.inj i j b e1 e2 h1 h2 li lj gi gj
  · intro id hid
    have hid' : S.n + 1 ≤ id := hid
    rw [TS.push_objs, if_neg (by omega)]
    exact h.wf id (by omega)
end Go.Proofs.YtlljknmojafkoaaGreatDoor.TL
namespace Go.Proofs.YtlljknmojafkoaaGreatDoor.TL
open Go.RowKit
def kill (S : TS) : Tag → TS
  | .own k => S.set k .gone
  | _ => S
@[simp] theorem kill_n (S : TS) (g : Tag) : (kill S g).n = S.n := by cases g <;> rfl
theorem Rel.kill {w0 : World} {c : Cx} {S : TS} {w : World} (h : Rel w0 c S w) (g : Tag) : Rel w0 c (kill S g) w := by
  cases g <;> first | exact h | exact h.drop _
def rowTag (S : TS) : Tag → Prop
  | .none => False
  | .full => True
  | .own k => S.objs k = .lin
theorem append_ok {E : Env} {w0 : World} {c : Cx} {S : TS} {w : World} (hk : Ok E w0 c S w) {t u ty e : TypeId} {i j iu : TI} (ht : TyIs E.P t i) (hd : i.desc = .slice e) (hj : TyIs E.P e j) (hu : TyIs E.P u iu) (hnu : ∀ k, iu.desc ≠ .int k)
    {g : Tag} {s : Nat} {xs ys : List D} {tx : TV} {vx vy : Value} (hx : RdT c w (.sl g s xs) vx) (hs : s = j.size ∨ (xs = [] ∧ g = .full)) (hg : rowTag S g) (hy : RdT c w tx vy) (hsrc : srcD S (isAggD j.desc) j.size tx = some ys)
    (hb : (xs.length + ys.length) * j.bytes ≤ LIM) (hb0 : 0 < j.bytes) (hz : j.zero.cells.size = j.size) (h0 : 0 < j.size) :
    ∃ v w', (Builtin.append_ #[t, u] ty #[vx, vy]).run E.P w = .ok v w' ∧ Fin E w0 c w (fun r S' => r = .sl (.own S.n) j.size (xs ++ ys) ∧ S' = (kill S g).push .lin) v w' := by
  obtain ⟨news, hlen, hfirst, hnews, _, _⟩ := srcD_ok hk hy hsrc
  have hlim : xs.length + ys.length ≤ LIM := Nat.le_trans (Nat.le_mul_of_pos_right _ hb0) hb
  have hnl : news.length = ys.length * j.size := hnews.len
  cases hx with
  | sl _ _ _ _ hdx htag =>
  have hform : ∃ a n cap, vx = .slice a n cap ∧ xs.length = n ∧ n ≤ cap := by
    cases hdx with
    | nil _ a cap => exact ⟨a, 0, cap, rfl, rfl, by omega⟩
    | sl _ _ b o n cap hn hc _ _ => exact ⟨_, n, cap, rfl, hn, hc⟩
  obtain ⟨a, n, cap, rfl, hn, hcap⟩ := hform
  obtain ⟨olds, ho1, _, _, ho4⟩ := hdx.cells_of
  have ho1' : RdEs c.A w j.size xs olds := by
    rcases hs with hs | ⟨hs, _⟩
    · rw [← hs]; exact ho1
    · subst hs
      have := ho1.len
      simp at this
      subst this
      exact .nil _ _ _
  by_cases hfit : n + ys.length ≤ cap
  · have hrun := run_append_fits (ty := ty) (w := w) ht hd hj hu hnu a n cap vy ys.length news hlen (hfirst w rfl) hfit
    by_cases hcn : cap = n
    · -- nothing is appended
      have hm0 : ys.length = 0 := by omega
      have hys : ys = [] := List.eq_nil_of_length_eq_zero hm0
      subst hys
      have hne : news = [] := List.eq_nil_of_length_eq_zero (by rw [hnl]; simp)
      subst hne
      obtain ⟨c', r1, r3, r2⟩ := (hk.rel.kill g).virtual
      have hcn' : c'.n = S.n + 1 := by rw [r1.cn, TS.push_n, kill_n]
      rw [kill_n] at r2
      refine ⟨.slice a n cap, w, ?_, _, c', _, hk.step r1 r3, r3, ?_, rfl, rfl⟩
      · rw [hrun]
        cases a <;> simp [storeCells]
      · rw [List.append_nil]
        refine .sl _ _ _ _ ?_ ⟨by rw [hcn']; omega, .inl hcn⟩
        rcases hs with hs | ⟨hs, _⟩
        · rw [← hs]; exact hdx.step r3
        · subst hs
          simp at hn
          subst hn
          exact .nil _ _ _
    · -- in place
      cases g with
      | none => exact hg.elim
      | full => exact absurd htag hcn
      | own k =>
        obtain ⟨htag0, htag⟩ := htag
        rcases htag with htag | ⟨b, o, e', z, rfl, hγ, he, hz'⟩
        · exact absurd htag hcn
        · rcases hs with hs | ⟨_, hs⟩
          · subst hs
            have hez : e' + ys.length * j.size ≤ z := by
              have : o + (n + ys.length) * j.size ≤ o + cap * j.size := Nat.add_le_add_left (Nat.mul_le_mul_right _ hfit) o
              rw [Nat.add_mul] at this
              omega
            obtain ⟨c', w', k1, k2, k3, k4, k5⟩ := hk.rel.extend (P := E.P) hg hγ news hnl hez hnews.flat
            refine ⟨.slice (some ⟨b, o, none⟩) (n + ys.length) cap, w', ?_, _, c', _, hk.step k2 k3, k3, ?_, rfl, rfl⟩
            · rw [hrun]
              simp only [addr_add, he, k1, Result.andThen_ok]
            · refine .sl _ _ _ _ ?_ ⟨by rw [k2.cn]; show S.n < S.n + 1; omega, .inr ⟨b, o, e' + ys.length * j.size, z, rfl, k4, by rw [Nat.add_mul]; omega, hz'⟩⟩
              have hall := (ho1'.step k3).append (hnews.step k3)
              refine hall.sl (by simp [hn]) hfit (by rw [← hn]; exact hlim) ?_
              intro q v hq
              have hol : olds.length = n * j.size := by rw [ho1'.len, hn]
              rcases Nat.lt_or_ge q olds.length with h | h
              · rw [List.getElem?_append_left h] at hq
                have hn0 : n ≠ 0 := by intro hh; rw [hh, Nat.zero_mul] at hol; omega
                -- the old cells: fixed ones
                have hA : c.A b (o + q) ∧ w.cell? ⟨b, o + q, none⟩ = some v := by
                  cases hdx with
                  | nil => exact absurd rfl hn0
                  | sl _ _ _ _ _ _ _ _ _ hh =>
                    have hqi : q / j.size < xs.length := by
                      rw [Nat.div_lt_iff_lt_mul h0, hn]; omega
                    have hel := hh (q / j.size) _ (List.getElem?_eq_getElem hqi)
                    obtain ⟨us, u1, u2, _⟩ := hel.toE
                    have hmod : q % j.size < us.length := by rw [u1]; exact Nat.mod_lt _ h0
                    have := u2 (q % j.size) _ (List.getElem?_eq_getElem hmod)
                    rw [Nat.add_assoc, Nat.mul_comm, Nat.div_add_mod] at this
                    rcases ho4 with ho4 | ⟨b2, o2, hbo, ho4⟩
                    · exact absurd ho4 hn0
                    · injection hbo with hbo; injection hbo with hb1 ho1; subst hb1 ho1
                      exact ⟨this.2, ho4 q v hq⟩
                exact ⟨(k3.cell _ _ hA.1).trans hA.2, k3.A _ _ hA.1⟩
              · rw [List.getElem?_append_right h] at hq
                have := k5 (q - olds.length) v hq
                rw [show e' + (q - olds.length) = o + q by omega] at this
                exact this
          · cases hs
  · -- a new row
    have hd1 := hk.rel.drew
    have hold : (Builtin.firstCells j.size n (.slice a n cap)).run E.P w.drew = .ok olds.toArray w.drew := by
      rcases ho4 with ho4 | ⟨b, o, rfl, ho4⟩
      · have hxs : xs = [] := List.eq_nil_of_length_eq_zero (by omega)
        subst hxs
        have : olds = [] := List.eq_nil_of_length_eq_zero (by have := ho1'.len; simpa using this)
        subst this
        subst ho4
        cases a with
        | none => simp [Builtin.firstCells]
        | some a => simp [Builtin.firstCells, loadCells, loadCellsFrom]
      · refine run_firstCells_some w.drew j.size n ⟨b, o, none⟩ n cap olds (by rw [ho1'.len, hn]) fun q v hq => ?_
        rw [addr_add, World.cell?_drew]; exact ho4 q v hq
    have hLIM : LIM = 140737488355328 := rfl
    have hbb : (n + ys.length) * j.bytes ≤ 140737488355328 := by rw [← hn]; exact hb
    have h63 : ((n + ys.length : Nat) : Int) ≤ 9223372036854775807 := by
      have : n + ys.length ≤ LIM := by rw [← hn]; exact hlim
      omega
    have hrun := run_append_grows (ty := ty) (w := w) ht hd hj hu hnu a n cap vy ys.length olds news hlen (hfirst w.drew rfl) hold hfit h63 (growslice_fits (by omega) hbb)
    generalize hnc : grownCap w (n + ys.length) cap e = nc at hrun
    have hncge : n + ys.length ≤ nc := by rw [← hnc]; exact grown_ge w _ _ _
    generalize hcells : olds.toArray ++ news.toArray ++ Builtin.zeroCells j.zero.cells (nc - (n + ys.length)) = arr at hrun
    have hasz : arr.size = nc * j.size := by
      rw [← hcells]
      simp only [Array.size_append, List.size_toArray, size_zeroCells, hz, ho1'.len, hnl, hn]
      rw [← Nat.add_mul, ← Nat.add_mul]
      congr 1; omega
    have harr : ∀ (q : Nat) v, (olds ++ news)[q]? = some v → arr[q]? = some v := by
      intro q v hq
      rw [← hcells]
      have hql : q < (olds ++ news).length := by
        rcases Nat.lt_or_ge q (olds ++ news).length with h | h
        · exact h
        · rw [List.getElem?_eq_none h] at hq; cases hq
      rw [Array.getElem?_append_left (by simpa using hql)]
      simpa using hq
    have hlen2 : (olds ++ news).length = (n + ys.length) * j.size := by simp [ho1'.len, hnl, hn, Nat.add_mul]
    obtain ⟨c', r, m, gn, hA⟩ := (hd1.1.kill g).alloc (.cells arr e) .lin ((n + ys.length) * j.size, nc * j.size) (fun q => q < (n + ys.length) * j.size)
      (fun q hq => by
        rw [World.cell?_alloc_new]
        have : q < arr.size := by rw [hasz]; exact Nat.lt_of_lt_of_le hq (Nat.mul_le_mul_right _ hncge)
        exact ⟨arr[q], Array.getElem?_eq_getElem this⟩)
      (by
        intro c' m gn hA b' e'' hb'
        rw [kill_n] at gn hb'
        rw [gn] at hb'
        injection hb' with hb'; injection hb' with h1 h2; subst h1 h2
        refine ⟨hd1.1.le, ⟨arr, e, (0, 0), heap_alloc_new _ _, by rw [hasz]; exact Nat.le_refl _⟩, fun q _ _ => by rw [World.frozen?_alloc_new], fun q hq ha => ?_⟩
        have := (hA q).1 ha
        simp only at hq
        omega)
    have mm : Mono c w c' (w.drew.alloc (.cells arr e)) := hd1.2.trans m
    refine ⟨_, _, hrun, _, c', _, hk.step r mm, mm, ?_, rfl, rfl⟩
    have hall := (ho1'.step mm).append (hnews.step mm)
    refine .sl _ _ _ _ (hall.sl (by simp [hn]) hncge (by rw [← hn]; exact hlim) ?_) ⟨by rw [r.cn, TS.push_n, kill_n]; omega, .inr ⟨w.heap.size, 0, (n + ys.length) * j.size, nc * j.size, rfl, by rw [kill_n] at gn; exact gn, by simp, by simp⟩⟩
    intro q v hq
    rw [Nat.zero_add]
    have hql : q < (olds ++ news).length := by
      rcases Nat.lt_or_ge q (olds ++ news).length with h | h
      · exact h
      · rw [List.getElem?_eq_none h] at hq; cases hq
    refine ⟨?_, (hA q).2 (by rw [← hlen2]; exact hql)⟩
    have := World.cell?_alloc_new w.drew arr e q
    rw [World.size_drew] at this
    rw [this]
    exact harr q v hq
theorem e_append {E : Env} {o : Oper} {T : Nat → TV} {S : TS} {x y : Operand} {t u e : TypeId} (ho : o.op = .call { callee := .builtin .append, args := #[x, y], argTypes := #[t, u] }) {i j iu : TI} {g : Tag} {s : Nat} {xs ys : List D} {K : TV → TS → Prop}
    (ht : tiOf E.P t = some i) (hd : i.desc = .slice e) (hj : tiOf E.P e = some j) (hu : tiOf E.P u = some iu) (hnu : ∀ k, iu.desc ≠ .int k)
    (hx : evO E T x = .sl g s xs) (hs : s = j.size ∨ (xs = [] ∧ g = .full)) (hg : rowTag S g) (hy : srcD S (isAggD j.desc) j.size (evO E T y) = some ys)
    (hb : (xs.length + ys.length) * j.bytes ≤ LIM) (hb0 : 0 < j.bytes) (hz : j.zero.cells.size = j.size) (h0 : 0 < j.size)
    (hK : K (.sl (.own S.n) j.size (xs ++ ys)) ((kill S g).push .lin)) : ESem E o T S K := by
  refine .of_run fun w0 c w a hk hop => ?_
  rw [ho] at hop
  have h1 := hop x (by simp [Op.operands, Call.operands])
  have h2 := hop y (by simp [Op.operands, Call.operands])
  rw [hx] at h1
  obtain ⟨v, w', hr, r, c', S', k1, k2, k3, rfl, rfl⟩ := append_ok hk (ty := o.type) (tyIs ht) hd (tyIs hj) (tyIs hu) hnu h1 hs hg h2 hy hb hb0 hz h0
  refine ⟨v, w', .inl ?_, _, c', _, k1, k2, k3, hK⟩
  unfold execOp
  rw [ho]
  simp only [resolve, Sem.run_bind, Sem.run_pure, Result.andThen_ok, invoke, builtin, List.map_toArray, List.map_cons, List.map_nil, hr]
end Go.Proofs.YtlljknmojafkoaaGreatDoor.TL
namespace Go.Proofs.YtlljknmojafkoaaGreatDoor.TL
open Go.RowKit
theorem RdCells.set {c : Cx} {w : World} {cs : List TV} {arr : Array Value} (h : RdCells c w cs arr) {t : TV} {v : Value} (hr : RdT c w t v) (i : Nat) : RdCells c w (cs.set i t) (arr.setIfInBounds i v) := by
  refine ⟨by simp [h.size], fun j x u h1 h2 => ?_⟩
  rw [List.getElem?_set] at h1
  rw [Array.getElem?_setIfInBounds] at h2
  by_cases hij : i = j
  · rw [if_pos hij] at h1 h2
    split at h1
    · split at h2
      · injection h1 with h1; injection h2 with h2; subst h1 h2; exact hr
      · cases h2
    · cases h1
  · rw [if_neg hij] at h1 h2
    exact h.rd j x u h1 h2
theorem RdCells.spl {c : Cx} {w : World} : ∀ (vs : List Value) (xs : List TV) (off k : Nat) {cs : List TV} {arr : Array Value}, RdCells c w cs arr → RdCells c w xs vs.toArray →
    RdCells c w (spl cs (off + k) xs) ((vs.zipIdx k).foldl (fun (a : Array Value) (p : Value × Nat) => a.setIfInBounds (off + p.2) p.1) arr)
  | [], xs, off, k, cs, arr, h, hx => by
    have : xs = [] := List.eq_nil_of_length_eq_zero (by have := hx.size; simpa using this.symm)
    subst this; exact h
  | v :: vs, [], off, k, cs, arr, h, hx => by have := hx.size; simp at this
  | v :: vs, x :: xs, off, k, cs, arr, h, hx => by
    simp only [List.zipIdx_cons, List.foldl_cons, TL.spl]
    have hr := hx.rd 0 x v (by simp) (by simp)
    exact RdCells.spl vs xs off (k + 1) (h.set hr (off + k)) ⟨by have := hx.size; simpa using this, fun j t u h1 h2 => hx.rd (j + 1) t u (by simpa using h1) (by simpa using h2)⟩
def fillT (place : Nat → Option (Nat × Nat)) : List TV → List (Nat × TV) → Option (List TV)
  | cs, [] => some cs
  | cs, (i, t) :: rest =>
    match place i with
    | none => none
    | some (off, size) => if (cellsT t).length = size ∧ off + size ≤ cs.length ∧ cellT t = true then fillT place (spl cs off (cellsT t)) rest else none
theorem fill_ok {c : Cx} {w : World} (place : Nat → Option (Nat × Nat)) : ∀ (ps : List (Nat × TV)) (vs : List (Nat × Value)) {cs cs' : List TV} {arr : Array Value}, RdCells c w cs arr → vs.length = ps.length →
    (∀ (j : Nat) p v, ps[j]? = some p → vs[j]? = some v → v.1 = p.1 ∧ RdT c w p.2 v.2) → fillT place cs ps = some cs' → ∃ arr', Instr.fill place arr vs = some arr' ∧ RdCells c w cs' arr'
  | [], vs, cs, cs', arr, h, hl, hr, hf => by
    have : vs = [] := List.eq_nil_of_length_eq_zero (by simpa using hl)
    subst this
    injection hf with hf; subst hf
    exact ⟨arr, rfl, h⟩
  | (i, t) :: ps, [], cs, cs', arr, h, hl, hr, hf => by simp at hl
  | (i, t) :: ps, (i', v) :: vs, cs, cs', arr, h, hl, hr, hf => by
    obtain ⟨e1, e2⟩ := hr 0 (i, t) (i', v) (by simp) (by simp)
    simp only at e1 e2
    subst e1
    simp only [fillT] at hf
    cases hp : place i' with
    | none => rw [hp] at hf; cases hf
    | some q =>
      obtain ⟨off, size⟩ := q
      rw [hp] at hf
      simp only at hf
      split at hf
      · rename_i hc
        obtain ⟨h1, h2, h3⟩ := hc
        obtain ⟨k1, _⟩ := RdCells.of e2 h3
        have hvs : v.cells.size = size := by rw [k1.size, h1]
        have hfold : (v.cells.zipIdx.foldl (fun (a : Array Value) (p : Value × Nat) => a.setIfInBounds (off + p.2) p.1) arr) = (v.cells.toList.zipIdx.foldl (fun (a : Array Value) (p : Value × Nat) => a.setIfInBounds (off + p.2) p.1) arr) := by
          rw [← Array.foldl_toList, Array.toList_zipIdx]
        have hsp := RdCells.spl v.cells.toList (cellsT t) off 0 h (by simpa using k1)
        rw [Nat.add_zero] at hsp
        obtain ⟨arr', g1, g2⟩ := fill_ok place ps vs hsp (by simpa using hl) (fun j p u a b => hr (j + 1) p u (by simpa using a) (by simpa using b)) hf
        refine ⟨arr', ?_, g2⟩
        simp only [Instr.fill, hp]
        rw [if_neg]
        · have : (fun (cs : Array Value) (x : Value × Nat) => match x with | (c, j) => cs.setIfInBounds (off + j) c) = (fun (a : Array Value) (p : Value × Nat) => a.setIfInBounds (off + p.2) p.1) := by
            funext a p; rfl
          rw [this, hfold]; exact g1
        · simp only [hvs, ne_eq, not_true_eq_false, decide_false, Bool.false_or, decide_eq_true_eq, Nat.not_lt, h.size]
          exact h2
      · cases hf
theorem fillT_length (place : Nat → Option (Nat × Nat)) : ∀ (ps : List (Nat × TV)) {cs cs' : List TV}, fillT place cs ps = some cs' → cs'.length = cs.length
  | [], cs, cs', h => by injection h with h; subst h; rfl
  | (i, t) :: ps, cs, cs', h => by
    simp only [fillT] at h
    split at h
    · cases h
    · split at h
      · rw [fillT_length place ps h]; simp
      · cases h
/-- The fields' places in a struct. -/
def placesOf (P : Program) : List Field → Option (List (Nat × Nat))
  | [] => some []
  | f :: fs =>
    match tiOf P f.type, placesOf P fs with
    | some i, some r => some ((f.offset, i.size) :: r)
    | _, _ => none
theorem run_places {P : Program} {w : World} : ∀ (fs : List Field) {r : List (Nat × Nat)}, placesOf P fs = some r → (fs.mapM (m := Sem) fun f => do pure (f.offset, ← sizeOf f.type)).run P w = .ok r w
  | [], r, h => by injection h with h; subst h; simp
  | f :: fs, r, h => by
    simp only [placesOf] at h
    split at h
    · rename_i i r' h1 h2
      injection h with h; subst h
      simp only [List.mapM_cons, Sem.run_bind, (tyIs h1).run_size, Result.andThen_ok, Sem.run_pure, run_places fs h2]
    · cases h
def partsT (E : Env) (T : Nat → TV) (ps : Array (Nat × Operand)) : List (Nat × TV) := ps.toList.map fun p => (p.1, evO E T p.2)
theorem parts_ok {E : Env} {c : Cx} {w : World} {T : Nat → TV} {a : Act} {ps : Array (Nat × Operand)} (h : ∀ x ∈ ps.toList.map (·.2), RdT c w (evO E T x) (a.eval x)) :
    ∀ (j : Nat) p v, (partsT E T ps)[j]? = some p → (ps.map fun (i, x) => (i, a.eval x)).toList[j]? = some v → v.1 = p.1 ∧ RdT c w p.2 v.2 := by
  intro j p v h1 h2
  simp only [partsT, List.getElem?_map] at h1
  obtain ⟨q, hq, rfl⟩ := Option.map_eq_some_iff.1 h1
  simp only [Array.toList_map, List.getElem?_map, hq, Option.map_some, Option.some.injEq] at h2
  subst h2
  exact ⟨rfl, h _ (List.mem_map.2 ⟨q, List.mem_of_getElem? hq, rfl⟩)⟩
theorem q_build {E : Env} {o : Oper} {T : Nat → TV} {S : TS} {t : TypeId} {ps : Array (Nat × Operand)} (ho : o.op = .build t ps) {i : TI} {fs : Array Field} {pl : List (Nat × Nat)} {cs : List TV}
    (ht : tiOf E.P t = some i) (hd : i.desc = .struct fs) (hp : placesOf E.P fs.toList = some pl) (hz : cellT (ofConst i.zero) = true) (hf : fillT (pl[·]?) (cellsT (ofConst i.zero)) (partsT E T ps) = some cs) : QSem E o T S (.agg cs) := by
  intro w0 c w a hk hop
  rw [ho] at hop
  obtain ⟨hz1, _⟩ := RdCells.of (rd_const c w i.zero) hz
  obtain ⟨arr, h1, h2⟩ := fill_ok (c := c) (w := w) (pl[·]?) (partsT E T ps) (ps.map fun (i, x) => (i, a.eval x)).toList hz1 (by simp [partsT]) (parts_ok fun x hx => hop x (by simpa [Op.operands] using hx)) hf
  refine ⟨.agg arr, ?_, .agg _ _ h2.size h2.rd⟩
  unfold execOp
  rw [ho]
  have hm : (fs.mapM (m := Sem) fun f => do pure (f.offset, ← sizeOf f.type)).run E.P w = .ok pl.toArray w := by
    rw [Array.mapM_eq_mapM_toList]
    simp only [Sem.run_map, run_places fs.toList hp, Result.andThen_ok]
  have hpl : (fun (x : Nat) => (pl.toArray)[x]?) = (fun (x : Nat) => pl[x]?) := by funext x; simp
  simp only [Instr.build, Sem.run_bind, (tyIs ht).run_zero, Result.andThen_ok, (tyIs ht).run_und, hd]
  simp only [hm, Result.andThen_ok, hpl, h1, Sem.run_pure]
/-! ### a slice's literal: elements that are fixed at once, or an object of its own -/
theorem litRun {E : Env} {c : Cx} {w : World} {T : Nat → TV} {a : Act} {t e n : Nat} {i j : TI} {ps : Array (Nat × Operand)} (ht : TyIs E.P t i) (hd : i.desc = .slice e) (hj : TyIs E.P e j) (hsz : n * j.size ≤ 2 ^ 24)
    (hop : ∀ x ∈ ps.toList.map (·.2), RdT c w (evO E T x) (a.eval x)) {cs : List TV} (hf : fillT (fun q => some (q * j.size, j.size)) (List.replicate (n * j.size) .unk) (partsT E T ps) = some cs) :
    ∃ arr, (Instr.buildSlice t n (ps.map fun (i, x) => (i, a.eval x))).run E.P w = .ok (.slice (some ⟨w.heap.size, 0, none⟩) n n) (w.alloc (.cells arr e)) ∧ RdCells c w cs arr := by
  obtain ⟨arr, h1, h2⟩ := fill_ok (c := c) (w := w) (fun q => some (q * j.size, j.size)) (partsT E T ps) (ps.map fun (i, x) => (i, a.eval x)).toList (cs := List.replicate (n * j.size) .unk)
    (arr := (Array.range (n * j.size)).map (((if n * j.size = 0 then #[] else j.zero.cells : Array Value))[· % (if n * j.size = 0 then #[] else j.zero.cells : Array Value).size]!))
    ⟨by simp, fun q x u hx _ => by
      have : x = .unk := by
        rw [List.getElem?_replicate] at hx
        split at hx
        · injection hx with hx; exact hx.symm
        · cases hx
      subst this; exact .unk _⟩ (by simp [partsT]) (parts_ok hop) hf
  refine ⟨arr, ?_, h2⟩
  unfold Instr.buildSlice
  simp only [Sem.run_bind, ht.run_und, Result.andThen_ok, hd, hj.run_size]
  rw [if_neg (by omega)]
  by_cases h0 : n * j.size = 0
  · simp only [h0, if_true] at h1 ⊢
    simp only [Sem.run_bind, Sem.run_pure, Result.andThen_ok, h1, newRow, run_newObj, World.alloc_eq]
  · simp only [h0, if_false] at h1 ⊢
    simp only [Sem.run_bind, hj.run_zero, Sem.run_pure, Result.andThen_ok, h1, newRow, run_newObj, World.alloc_eq]
theorem e_lit {E : Env} {o : Oper} {T : Nat → TV} {S : TS} {t e n : Nat} {ps : Array (Nat × Operand)} (ho : o.op = .buildSlice t n ps) {i j : TI} {cs : List TV} {ds : List D} {K : TV → TS → Prop}
    (ht : tiOf E.P t = some i) (hd : i.desc = .slice e) (hj : tiOf E.P e = some j) (h0 : 0 < j.size) (hsz : n * j.size ≤ 2 ^ 24) (hf : fillT (fun q => some (q * j.size, j.size)) (List.replicate (n * j.size) .unk) (partsT E T ps) = some cs)
    (hfl : cs.all flatT = true) (hs : isAggD j.desc = false → j.size = 1) (hc : chunks (isAggD j.desc) j.size n cs = some ds) (hcl : n * j.size ≤ cs.length) (hK : K (.sl .full j.size ds) S) : ESem E o T S K := by
  refine .of_run fun w0 c w a hk hop => ?_
  rw [ho] at hop
  obtain ⟨arr, h1, h2⟩ := litRun (c := c) (tyIs ht) hd (tyIs hj) hsz (fun x hx => hop x (by simpa [Op.operands] using hx)) hf
  have hll : cs.length = n * j.size := by
    have := fillT_length _ _ hf
    simpa using this
  obtain ⟨c', r, m, hA, hγ⟩ := hk.rel.allocFixed (.cells arr e) (fun q => q < arr.size) (fun q hq => by rw [World.cell?_alloc_new]; exact ⟨arr[q], Array.getElem?_eq_getElem hq⟩)
  obtain ⟨k1, k2⟩ := chunks_ok (c := c) (w := w) hs n cs arr.toList hc hcl (by simp [h2.size, hll]) (fun q x v a1 a2 => by
    have hr := h2.rd q x v a1 (by simpa using a2)
    exact ⟨hr, (flat_one hr (List.all_eq_true.1 hfl _ (List.mem_of_getElem? a1))).2⟩)
  have hn : n ≤ LIM := by
    have : n ≤ n * j.size := Nat.le_mul_of_pos_right _ h0
    have hL : LIM = 140737488355328 := rfl
    omega
  refine ⟨_, _, .inl ?_, _, c', S, hk.step r m, m, RdT.sl .full _ _ _ ((k1.step m).sl (b := w.heap.size) (o := 0) k2 (Nat.le_refl n) hn ?_) (show n = n from rfl), hK⟩
  · unfold execOp
    rw [ho]
    simp only [Sem.run_bind, h1, Result.andThen_ok, Sem.run_pure]
  · intro q v hq
    rw [Nat.zero_add, World.cell?_alloc_new]
    have hql : q < arr.size := by
      rcases Nat.lt_or_ge q arr.size with h | h
      · exact h
      · rw [List.getElem?_eq_none (by simpa using h)] at hq; cases hq
    exact ⟨by simpa using hq, (hA q).2 hql⟩
/-- The same, as an object that may be written. -/
theorem e_litV {E : Env} {o : Oper} {T : Nat → TV} {S : TS} {t e n : Nat} {ps : Array (Nat × Operand)} (ho : o.op = .buildSlice t n ps) {i j : TI} {cs : List TV} {K : TV → TS → Prop}
    (ht : tiOf E.P t = some i) (hd : i.desc = .slice e) (hj : tiOf E.P e = some j) (hsz : n * j.size ≤ 2 ^ 24) (hf : fillT (fun q => some (q * j.size, j.size)) (List.replicate (n * j.size) .unk) (partsT E T ps) = some cs)
    (hK : K (.vs S.n 0 j.size n) (S.push (.cells e cs))) : ESem E o T S K := by
  refine .of_run fun w0 c w a hk hop => ?_
  rw [ho] at hop
  obtain ⟨arr, h1, h2⟩ := litRun (c := c) (tyIs ht) hd (tyIs hj) hsz (fun x hx => hop x (by simpa [Op.operands] using hx)) hf
  obtain ⟨c', r, m, g⟩ := hk.rel.newCells e cs arr h2
  have hfl := fillT_length _ _ hf
  have hcl : arr.size = n * j.size := by rw [h2.size]; simpa using hfl
  refine ⟨_, _, .inl ?_, _, c', _, hk.step r m, m, .vs _ 0 _ _ n _ _ g (Nat.le_refl _) (by simp [hcl]), hK⟩
  unfold execOp
  rw [ho]
  simp only [Sem.run_bind, h1, Result.andThen_ok, Sem.run_pure]
/-! ### make -/
/-- A slice of so many zeros (of one cell), as an object that may be written. -/
theorem e_makeV {E : Env} {o : Oper} {T : Nat → TV} {S : TS} {t e : Nat} {x y : Operand} (ho : o.op = .makeSlice t x y) {i j : TI} {kl kc : IntKind} {l : Int} {K : TV → TS → Prop}
    (ht : tiOf E.P t = some i) (hd : i.desc = .slice e) (hj : tiOf E.P e = some j) (hs : j.size = 1) (hz : j.zero.cells = #[j.zero]) (hx : evO E T x = .lit (.int kl l)) (hy : evO E T y = .lit (.int kc l)) (h0 : 0 ≤ l) (hb : j.bytes * l ≤ LIM) (hb0 : 0 < j.bytes)
    (hK : K (.vs S.n 0 1 l.toNat) (S.push (.cells e (List.replicate l.toNat (ofConst1 j.zero))))) : ESem E o T S K := by
  refine .of_run fun w0 c w a hk hop => ?_
  rw [ho] at hop
  have h1 := hop x (by simp [Op.operands])
  have h2 := hop y (by simp [Op.operands])
  rw [hx] at h1; rw [hy] at h2
  have e1 := h1.lit_inv; have e2 := h2.lit_inv
  obtain ⟨inf, hi, hi1, hi2, hi3⟩ := (tyIs hj).inf
  have hL : LIM = 140737488355328 := rfl
  have hll : l ≤ LIM := by
    have : l ≤ j.bytes * l := by
      have : (1 : Int) * l ≤ j.bytes * l := Int.mul_le_mul_of_nonneg_right (by omega) h0
      omega
    omega
  have hrun := run_make (P := E.P) w t e inf j.zero (by rw [(tyIs ht).und, hd]) hi hi3 kl kc l l h0 (Int.le_refl _) (by rw [hi2]; omega) (by omega)
  rw [hi1, hs, Nat.mul_one] at hrun
  have hrd : RdCells c w (List.replicate l.toNat (ofConst1 j.zero)) (madeCells j.zero.cells l.toNat) := by
    refine ⟨by simp [size_madeCells], fun q t v a1 a2 => ?_⟩
    have ht' : t = ofConst1 j.zero := by
      rw [List.getElem?_replicate] at a1
      split at a1
      · injection a1 with a1; exact a1.symm
      · cases a1
    have hv : v = j.zero := by
      rw [hz] at a2
      simp [madeCells, Nat.mod_one] at a2
      exact a2.2.symm
    subst ht' hv
    exact rd_const1 c w _
  obtain ⟨c', r, m, g⟩ := hk.rel.newCells e _ _ hrd
  have hcl : (madeCells j.zero.cells l.toNat).size = l.toNat := by rw [size_madeCells]
  refine ⟨_, _, .inl ?_, _, c', _, hk.step r m, m, .vs _ 0 _ _ l.toNat _ _ g (Nat.le_refl _) (by simp [hcl]), hK⟩
  unfold execOp
  rw [ho]
  simp only [e1, e2, Sem.run_bind, hrun, Result.andThen_ok, Sem.run_pure]
/-! ### copy within objects -/
theorem e_copy {E : Env} {o : Oper} {T : Nat → TV} {S : TS} {x y : Operand} {t e : TypeId} {ty : Array TypeId} (ho : o.op = .call { callee := .builtin .copy, args := #[x, y], argTypes := ty }) (hty : ty[0]? = some t) {i j : TI} {K : TV → TS → Prop}
    {d off l d' off' l' e1 e2 : Nat} {cs cs' : List TV} (ht : tiOf E.P t = some i) (hd : i.desc = .slice e) (hj : tiOf E.P e = some j)
    (hx : evO E T x = .vs d off j.size l) (hy : evO E T y = .vs d' off' j.size l') (hobj : S.objs d = .cells e1 cs) (hobj' : S.objs d' = .cells e2 cs') (hfl : cs'.all flatT = true)
    (h1 : off + min l' l * j.size ≤ cs.length) (h2 : off' + min l' l * j.size ≤ cs'.length)
    (hK : K (.lit (.int .i64 ((min l' l : Nat) : Int))) (S.set d (.cells e1 (spl cs off ((cs'.drop off').take (min l' l * j.size)))))) : ESem E o T S K := by
  refine .of_run fun w0 c w a hk hop => ?_
  rw [ho] at hop
  have hx' := hop x (by simp [Op.operands, Call.operands])
  have hy' := hop y (by simp [Op.operands, Call.operands])
  rw [hx] at hx'; rw [hy] at hy'
  have hred : ∀ v w', (Builtin.copy_ ty o.type #[a.eval x, a.eval y]).run E.P w = .ok v w' → (execOp a.eval o).run E.P w = .ok (.value v) w' := by
    intro v w' h
    unfold execOp
    rw [ho]
    simp only [resolve, Sem.run_bind, Sem.run_pure, Result.andThen_ok, invoke, builtin, List.map_toArray, List.map_cons, List.map_nil, h]
  generalize hvx : a.eval x = vx at hx'
  generalize hvy : a.eval y = vy at hy'
  have hmt : min l' l = 0 → ∃ v w', ((execOp a.eval o).run E.P w = .ok (.value v) w' ∨ ((execOp a.eval o).run E.P w = .ok .skip w' ∧ v = undef)) ∧ Fin E w0 c w K v w' := by
    intro hm
    rw [hm, Nat.zero_mul, List.take_zero] at hK
    simp only [spl] at hK
    rw [TS.set_same S d _ hobj] at hK
    have hl1 : ∃ a2 c2, vx = .slice a2 l c2 := by cases hx' <;> exact ⟨_, _, rfl⟩
    have hl2 : ∃ a2 c2, vy = .slice a2 l' c2 := by cases hy' <;> exact ⟨_, _, rfl⟩
    obtain ⟨a1, c1, rfl⟩ := hl1
    obtain ⟨a2, c2, rfl⟩ := hl2
    have hmin : Nat.min l' l = 0 := hm
    refine ⟨.int .i64 ((0 : Nat) : Int), w, .inl (hred _ _ ?_), _, c, S, hk, Mono.refl c w, .lit _, hK⟩
    rw [hvx, hvy]
    simp only [Builtin.copy_, hty, List.getElem?_toArray, List.getElem?_cons_zero, List.getElem?_cons_succ, Sem.run_bind, (tyIs ht).run_und, hd, Result.andThen_ok, Sem.run_pure, Builtin.lenOf, (tyIs hj).run_size, hmin]
    cases a2 <;> cases a1 <;> simp [Builtin.firstCells, loadCells, loadCellsFrom, storeCells, goInt]
  cases hx' with
  | vsN => exact hmt (by omega)
  | vs _ _ _ _ cap b z hγ hc hcz =>
  cases hy' with
  | vsN => exact hmt (by omega)
  | vs _ _ _ _ cap' b' z' hγ' hc' hcz' =>
    have hob := hk.rel.obj d' (hk.rel.dom _ _ hγ')
    rw [hobj'] at hob
    obtain ⟨_, _, _, g4, _⟩ := hob.2 b' z' hγ'
    have hch : ∃ f : Nat → Value, ∀ q, q < min l' l * j.size → w.cell? ⟨b', z'.1 + off' + q, none⟩ = some (f q) ∧ ∃ x, cs'[off' + q]? = some x ∧ RdT c w x (f q) ∧ (f q).oneCell' = true := by
      refine ⟨fun q => (w.cell? ⟨b', z'.1 + off' + q, none⟩).getD default, fun q hq => ?_⟩
      have hlt : off' + q < cs'.length := by omega
      obtain ⟨v, k1, k2⟩ := g4 (off' + q) _ (List.getElem?_eq_getElem hlt)
      rw [← Nat.add_assoc] at k1
      simp only [k1, Option.getD_some]
      exact ⟨trivial, _, List.getElem?_eq_getElem hlt, k2, (flat_one k2 (List.all_eq_true.1 hfl _ (List.getElem_mem hlt))).2⟩
    obtain ⟨f, hf⟩ := hch
    have hload := run_loadCells E.P w b' (z'.1 + off') (min l' l * j.size) f (fun q hq => (hf q hq).1)
    have hrd : RdCells c w ((cs'.drop off').take (min l' l * j.size)) ((List.range (min l' l * j.size)).map f).toArray := by
      refine ⟨by simp; omega, fun q t v a1 a2 => ?_⟩
      rw [List.getElem?_take] at a1
      split at a1
      · rename_i hq
        rw [List.getElem?_drop] at a1
        simp only [List.getElem?_toArray, List.getElem?_map, List.getElem?_range hq, Option.map_some, Option.some.injEq] at a2
        subst a2
        obtain ⟨_, x, hx1, hx2, _⟩ := hf q hq
        rw [hx1] at a1; injection a1 with a1; subst a1
        exact hx2
      · cases a1
    obtain ⟨w', k1, k2, k3⟩ := Rel.storeN (P := E.P) (off := off) ((List.range (min l' l * j.size)).map f) ((cs'.drop off').take (min l' l * j.size)) 0 hk.rel hobj hγ (by simp; omega) hrd (fun v hv => by
      simp only [List.mem_map, List.mem_range] at hv
      obtain ⟨q, hq, rfl⟩ := hv
      obtain ⟨_, _, _, _, h⟩ := hf q hq
      exact h)
    refine ⟨_, w', .inl ?_, _, c, _, hk.step k2 k3, k3, .lit _, hK⟩
    unfold execOp
    rw [ho]
    simp only [resolve, Sem.run_bind, Sem.run_pure, Result.andThen_ok, invoke, builtin, List.map_toArray, List.map_cons, List.map_nil, Builtin.copy_, hty, hvx, hvy, List.getElem?_toArray, List.getElem?_cons_zero, List.getElem?_cons_succ, (tyIs ht).run_und, hd,
      Builtin.lenOf, (tyIs hj).run_size, Builtin.firstCells]
    have hmin : Nat.min l' l = min l' l := rfl
    rw [hmin, hload]
    simp only [Result.andThen_ok, k1, goInt, Sem.run_pure]
/-! ### strings and bytes -/
theorem bytesWorld_eq (w : World) (e : TypeId) (s : ByteArray) : Lib.bytesWorld w e s = w.drew.alloc (.cells (Lib.bytesCells w e s) e ((Lib.bytesCells w e s).size, (Lib.bytesCells w e s).size + 1)) := by
  have h : (Lib.bytesWorld w e s).heap = (w.drew.alloc (.cells (Lib.bytesCells w e s) e ((Lib.bytesCells w e s).size, (Lib.bytesCells w e s).size + 1))).heap := by
    apply Array.ext_getElem?
    intro j
    rcases Nat.lt_trichotomy j w.heap.size with hj | hj | hj
    · rw [Lib.bytesWorld_at_old w e s j hj, Below.heap_alloc _ _ _ (by rw [World.size_drew]; exact hj)]
      rfl
    · subst hj
      rw [Lib.bytesWorld_at_new]
      have := heap_alloc_new w.drew (.cells (Lib.bytesCells w e s) e ((Lib.bytesCells w e s).size, (Lib.bytesCells w e s).size + 1))
      rw [World.size_drew] at this
      rw [this]
    · rw [Array.getElem?_eq_none (by rw [Lib.bytesWorld_size]; omega), Array.getElem?_eq_none (by rw [World.size_alloc, World.size_drew]; omega)]
  have h2 : (Lib.bytesWorld w e s).os = w.os ∧ (Lib.bytesWorld w e s).tape = w.tape ∧ (Lib.bytesWorld w e s).output = w.output ∧ (Lib.bytesWorld w e s).drawn = w.drawn + 1 := by
    unfold Lib.bytesWorld World.freeze
    simp only [Nat.one_ne_zero, if_false]
    exact ⟨rfl, rfl, rfl, rfl⟩
  generalize Lib.bytesWorld w e s = w1 at h h2
  obtain ⟨heap, tape, drawn, os, output⟩ := w1
  obtain ⟨h3, h4, h5, h6⟩ := h2
  simp only at h h3 h4 h5 h6
  subst h3 h4 h5 h6
  simp only [World.alloc, World.drew] at h ⊢
  simp only [World.mk.injEq, and_true, true_and]
  exact h
theorem e_strBytes {E : Env} {o : Oper} {T : Nat → TV} {S : TS} {s d e : TypeId} {x : Operand} (ho : o.op = .convert s d x) {i j ie : TI} {b : ByteArray} {K : TV → TS → Prop}
    (hs : tiOf E.P s = some i) (hd : tiOf E.P d = some j) (hj : j.desc = .slice e) (he : tiOf E.P e = some ie) (hie : ie.desc = .int .u8) (hx : evO E T x = .lit (.string b)) (hb : b.size ≤ LIM)
    (hK : K (.sl (.own S.n) 1 (bytesD b)) (S.push .lin)) : ESem E o T S K := by
  refine .of_run fun w0 c w a hk hop => ?_
  rw [ho] at hop
  have h1 := hop x (by simp [Op.operands])
  rw [hx] at h1
  have e1 := h1.lit_inv
  have hrun := Lib.run_convert_string_bytes (P := E.P) w s d e b (tyIs hs).und (by rw [(tyIs hd).und, hj]) (by rw [(tyIs he).und, hie])
  rw [bytesWorld_eq] at hrun
  have hsz : b.size ≤ grownCap w b.size 0 e := grown_ge w b.size 0 e
  have hcs : (Lib.bytesCells w e b).size = grownCap w b.size 0 e := by
    simp [Lib.bytesCells]
    omega
  have hcell : ∀ (q : Nat) v, (b.data.toList.map fun x => Value.int .u8 x.toNat)[q]? = some v → (Lib.bytesCells w e b)[q]? = some v := by
    intro q v hq
    have hql : q < b.data.toList.length := by
      rcases Nat.lt_or_ge q b.data.toList.length with h | h
      · exact h
      · rw [List.getElem?_eq_none (by simpa using h)] at hq; cases hq
    unfold Lib.bytesCells
    rw [Array.getElem?_append_left (by simpa using hql)]
    simpa using hq
  generalize Lib.bytesCells w e b = arr at *
  have hd1 := hk.rel.drew
  have hbl : b.data.toList.length = b.size := by simp
  obtain ⟨c', r, m, gn, hA⟩ := hd1.1.alloc (.cells arr e (arr.size, arr.size + 1)) .lin (b.size, arr.size) (fun q => q < b.size)
    (fun q hq => ⟨arr[q]'(by omega), by
      unfold World.cell?
      simp only [heap_alloc_new w.drew, Option.isSome_none, Bool.false_eq_true, if_false]
      exact Array.getElem?_eq_getElem (by omega)⟩)
    (by
      intro c' m gn hA b' e'' hb'
      rw [gn] at hb'
      injection hb' with hb'; injection hb' with h1 h2; subst h1 h2
      refine ⟨hd1.1.le, ⟨arr, e, _, heap_alloc_new _ _, Nat.le_refl _⟩, fun q _ hq => ?_, fun q hq ha => ?_⟩
      · simp only at hq
        unfold World.frozen?
        simp only [heap_alloc_new w.drew]
        rw [Bool.and_eq_false_iff]
        left
        simp
        omega
      · have := (hA q).1 ha
        simp only at hq
        omega)
  have mm : Mono c w c' (w.drew.alloc (.cells arr e (arr.size, arr.size + 1))) := hd1.2.trans m
  have hE : RdEs c'.A (w.drew.alloc (.cells arr e (arr.size, arr.size + 1))) 1 (bytesD b) (b.data.toList.map fun x => Value.int .u8 x.toNat) := by
    refine ⟨by simp [bytesD], fun q d hq => ?_⟩
    simp only [bytesD, List.getElem?_map] at hq
    obtain ⟨x, hx, rfl⟩ := Option.map_eq_some_iff.1 hq
    have hx' : q < b.data.toList.length := by
      rcases Nat.lt_or_ge q b.data.toList.length with h | h
      · exact h
      · rw [List.getElem?_eq_none h] at hx; cases hx
    rw [Nat.mul_one, List.drop_eq_getElem_cons (by simpa using hx')]
    simp only [List.take_succ_cons, List.take_zero, List.getElem_map]
    rw [List.getElem?_eq_getElem hx'] at hx
    injection hx with hx
    rw [hx]
    exact .one _ _ rfl rfl (.lit _)
  refine ⟨_, _, .inl ?_, _, c', _, hk.step r mm, mm, RdT.sl (.own S.n) _ _ _ (hE.sl (b := w.heap.size) (o := 0) (n := b.size) (cap := grownCap w b.size 0 e) (by simp [bytesD]) hsz hb ?_) ⟨by rw [r.cn]; show S.n < S.n + 1; omega, .inr ⟨w.heap.size, 0, b.size, arr.size, rfl, gn, by simp, by omega⟩⟩, hK⟩
  · unfold execOp
    rw [ho]
    simp only [e1, Sem.run_bind, hrun, Result.andThen_ok, Sem.run_pure]
  · intro q v hq
    have hql : q < b.size := by
      rcases Nat.lt_or_ge q b.data.toList.length with h | h
      · omega
      · rw [List.getElem?_eq_none (by simpa using h)] at hq; cases hq
    rw [Nat.zero_add]
    have hh := heap_alloc_new w.drew (.cells arr e (arr.size, arr.size + 1))
    rw [World.size_drew] at hh
    refine ⟨?_, (hA q).2 hql⟩
    unfold World.cell?
    simp only [hh, Option.isSome_none, Bool.false_eq_true, if_false]
    exact hcell q v hq
theorem RdD.lit_inv {A : Nat → Nat → Prop} {w : World} {v u : Value} (h : RdD A w (.lit v) (.val u)) : u = v := by
  generalize hx : D.lit v = d at h
  generalize hy : Tgt.val u = y at h
  cases h with
  | lit v' => injection hx with hx; injection hy with hy; subst hx hy; rfl
  | one => cases hy
  | _ => cases hx
/-- Bytes that are all numbers, as a string. -/
def unbytes : List D → Option (List Int)
  | [] => some []
  | .lit (.int .u8 n) :: xs => (unbytes xs).map (n :: ·)
  | _ :: _ => none
theorem unbytes_ok : ∀ {xs : List D} {ns : List Int}, unbytes xs = some ns → ns.length = xs.length ∧ ∀ (q : Nat) d, xs[q]? = some d → d = .lit (.int .u8 (ns.getD q 0))
  | [], ns, h => by injection h with h; subst h; exact ⟨rfl, fun q d h => by simp at h⟩
  | x :: xs, ns, h => by
    unfold unbytes at h
    split at h
    · rename_i hh; cases hh
    · rename_i n ys hh
      injection hh with h1 h2; subst h1 h2
      obtain ⟨ms, hm, rfl⟩ := Option.map_eq_some_iff.1 h
      obtain ⟨g1, g2⟩ := unbytes_ok hm
      refine ⟨by simp [g1], fun q d hq => ?_⟩
      cases q with
      | zero => simp at hq; subst hq; rfl
      | succ q => simp at hq; simpa using g2 q d hq
    · cases h
theorem q_bytesStr {E : Env} {o : Oper} {T : Nat → TV} {S : TS} {s d e : TypeId} {x : Operand} (ho : o.op = .convert s d x) {i j ie : TI} {g : Tag} {xs : List D} {ns : List Int}
    (hs : tiOf E.P s = some i) (hi : i.desc = .slice e) (he : tiOf E.P e = some ie) (hie : ie.desc = .int .u8) (hd : tiOf E.P d = some j) (hj : j.desc = .string) (hx : evO E T x = .sl g 1 xs) (hn : unbytes xs = some ns) : QSem E o T S (.lit (.string (strOfNums ns))) := by
  intro w0 c w a hk hop
  rw [ho] at hop
  have h1 := hop x (by simp [Op.operands])
  rw [hx] at h1
  generalize hv : a.eval x = v at h1
  have hu : E.P.underlying s = some (.slice e) := by rw [(tyIs hs).und, hi]
  have hue : E.P.underlying e = some (.int .u8) := by rw [(tyIs he).und, hie]
  have hud : E.P.underlying d = some .string := by rw [(tyIs hd).und, hj]
  obtain ⟨hl, hg⟩ := unbytes_ok hn
  cases h1 with
  | sl _ _ _ _ hd' _ =>
    have hform : ∃ a n cap, v = .slice a n cap := by
      cases hd' with
      | nil _ a cap => exact ⟨a, 0, cap, rfl⟩
      | sl _ _ b o n cap hn hc _ _ => exact ⟨_, n, cap, rfl⟩
    obtain ⟨ad, n, cap, rfl⟩ := hform
    suffices H : (convert s d (.slice ad n cap)).run E.P w = .ok (.string (strOfNums ns)) w by
      refine ⟨_, ?_, .lit _⟩
      unfold execOp
      rw [ho]
      simp only [hv, Sem.run_bind, H, Result.andThen_ok, Sem.run_pure]
    obtain ⟨vs, k1, k2, _, k4⟩ := hd'.cells_of
    have hvs : ∀ (q : Nat), q < n → vs[q]? = some (.int .u8 (ns.getD q 0)) := by
      intro q hq
      have hqx : q < xs.length := by omega
      have hx0 : xs[q]? = some xs[q] := List.getElem?_eq_getElem hqx
      have hd2 := hg q _ hx0
      have hel := k1.el q _ hx0
      rw [hd2, Nat.mul_one] at hel
      have hvl : q < vs.length := by rw [k1.len]; omega
      rw [List.drop_eq_getElem_cons hvl] at hel
      simp only [List.take_succ_cons, List.take_zero] at hel
      cases hel with
      | one _ _ _ _ hr => rw [List.getElem?_eq_getElem hvl]; congr 1; exact hr.lit_inv
    rcases k4 with k4 | ⟨b, o', rfl, k4⟩
    · have hns : ns = [] := List.eq_nil_of_length_eq_zero (by omega)
      subst hns k4
      cases ad with
      | none => exact run_convert_bytes_nil w s e hu hue 0 cap d hud
      | some p =>
        cases hd' with
        | nil => 
          rw [run_convert_bytes_string w s d e _ 0 cap hu hue hud]
          simp [Conv.bytesToString, loadCells, loadCellsFrom, strOfNums]
          rfl
        | sl _ _ b o _ _ _ _ _ _ => exact run_convert_bytes_arg w s e hu hue b o 0 cap [] rfl (fun i hi => by omega) d hud
    · refine run_convert_bytes_arg w s e hu hue b o' n cap ns (by omega) (fun q hq => ?_) d hud
      exact k4 q _ (hvs q hq)
end Go.Proofs.YtlljknmojafkoaaGreatDoor.TL
namespace Go.Proofs.YtlljknmojafkoaaGreatDoor.TL
open Go.RowKit
/-- A new id for something that has no block yet. -/
theorem Rel.virtual' {w0 : World} {c : Cx} {S : TS} {w : World} (h : Rel w0 c S w) (o : TObj) (ho : o = .lin ∨ ∃ e, o = .cells e []) : ∃ c', Rel w0 c' (S.push o) w ∧ Mono c w c' w ∧ c'.γ S.n = none ∧ c'.n = S.n + 1 := by
  have hn : c.γ S.n = none := by
    cases hg : c.γ S.n with
    | none => rfl
    | some x => have := h.dom _ _ hg; omega
  have m : Mono c w { c with n := S.n + 1 } w := ⟨fun _ _ h => h, fun _ _ _ => rfl, fun _ _ h => h, by have := h.cn; show c.n ≤ S.n + 1; omega⟩
  have hn' : ({ c with n := S.n + 1 } : Cx).γ S.n = none := hn
  refine ⟨{ c with n := S.n + 1 }, ⟨h.below, fun id x hx => by have := h.dom id x hx; show id < S.n + 1; omega, ?_, ?_, h.cell, ?_, rfl⟩, m, hn, rfl⟩
  · intro id hid
    have hid' : id < S.n + 1 := hid
    rw [TS.push_objs]
    by_cases hi : id = S.n
    · subst hi
      rw [if_pos rfl]
      rcases ho with rfl | ⟨e, rfl⟩
      · intro b e hb; rw [hn'] at hb; cases hb
      · exact ⟨fun _ => rfl, fun b e hb => by rw [hn'] at hb; cases hb⟩
    · rw [if_neg hi]; exact (h.obj id (by omega)).keep m rfl (fun _ b e _ => ⟨rfl, fun _ h => h⟩)
  · intro i j b e1 e2 hi hj li lj gi gj
    have h1 := h.dom _ _ gi
    have h2 := h.dom _ _ gj
    rw [TS.push_objs, if_neg (by omega)] at li
    rw [TS.push_objs, if_neg (by omega)] at lj
    exact h.inj i j b e1 e2 h1 h2 li lj gi gj
  · intro id hid
    have hid' : S.n + 1 ≤ id := hid
    rw [TS.push_objs, if_neg (by omega)]
    exact h.wf id (by omega)
/-- The cells behind a place are told no more. -/
theorem Rel.trunc {w0 : World} {c : Cx} {S : TS} {w : World} (h : Rel w0 c S w) {id e : Nat} {cs : List TV} (hobj : S.objs id = .cells e cs) (n : Nat) : Rel w0 c (S.set id (.cells e (cs.take n))) w := by
  refine ⟨h.below, h.dom, fun i hi => ?_, fun i j b e1 e2 hi hj li lj gi gj => ?_, h.cell, fun i hi => ?_, h.cn⟩
  · rw [TS.set_objs]
    by_cases hii : i = id
    · rw [if_pos hii]
      subst hii
      have hob := h.obj i hi
      rw [hobj] at hob
      refine ⟨fun hn => by rw [hob.1 hn]; simp, fun b z hz => ?_⟩
      obtain ⟨g2, ⟨arr, fr, g3, gz, gl⟩, gf, g4, g5⟩ := hob.2 b z hz
      refine ⟨g2, ⟨arr, fr, g3, gz, by have : (cs.take n).length ≤ cs.length := by simp; omega
                                       omega⟩, gf, fun j x hx => ?_, g5⟩
      rw [List.getElem?_take] at hx
      split at hx
      · exact g4 j x hx
      · cases hx
    · rw [if_neg hii]; exact h.obj i hi
  · have key : ∀ k, ((S.set id (.cells e (cs.take n))).objs k).live = true → (S.objs k).live = true := by
      intro k hk
      rw [TS.set_objs] at hk
      by_cases hki : k = id
      · rw [hki, hobj]; rfl
      · rwa [if_neg hki] at hk
    exact h.inj i j b e1 e2 hi hj (key i li) (key j lj) gi gj
  · rw [TS.set_objs]
    split
    · rename_i hii
      have := h.wf i hi
      rw [hii, hobj] at this; cases this
    · exact h.wf i hi
/-- The cells of a row that may be written. -/
theorem vs_cells {E : Env} {w0 : World} {c : Cx} {S : TS} {w : World} (hk : Ok E w0 c S w) {ag : Bool} {id off s len : Nat} {v : Value} {ys : List D} (hr : RdT c w (.vs id off s len) v) (h : srcD S ag s (.vs id off s len) = some ys) :
    ys.length = len ∧ len ≤ LIM ∧ ((∃ a, v = .slice a 0 0 ∧ ys = []) ∨ ∃ b e cap news, c.γ id = some (b, e) ∧ v = .slice (some ⟨b, e.1 + off, none⟩) len cap ∧ len ≤ cap ∧ e.1 + off + cap * s ≤ e.2 ∧ RdEs c.A w s ys news ∧
      ∀ (j : Nat) x, news[j]? = some x → w.cell? ⟨b, e.1 + off + j, none⟩ = some x) := by
  simp only [srcD] at h
  split at h
  · rename_i e cs hobj
    split at h
    · rename_i hcond
      obtain ⟨_, h2, h3, h4, h5⟩ := hcond
      cases hr with
      | vsN id off s a hn =>
        rw [chunks] at h
        injection h with h; subst h
        exact ⟨rfl, h5, .inl ⟨a, rfl, rfl⟩⟩
      | vs id off s len cap b z hγ hc hz =>
        have hob := hk.rel.obj id (hk.rel.dom _ _ hγ)
        rw [hobj] at hob
        obtain ⟨_, _, _, g4, _⟩ := hob.2 b z hγ
        have hch : ∃ f : Nat → Value, ∀ j, j < len * s → w.cell? ⟨b, z.1 + off + j, none⟩ = some (f j) ∧ ∃ x, cs[off + j]? = some x ∧ RdT c w x (f j) ∧ (f j).oneCell' = true := by
          refine ⟨fun j => (w.cell? ⟨b, z.1 + off + j, none⟩).getD default, fun j hj => ?_⟩
          have hlt : off + j < cs.length := by omega
          obtain ⟨v, k1, k2⟩ := g4 (off + j) _ (List.getElem?_eq_getElem hlt)
          rw [← Nat.add_assoc] at k1
          simp only [k1, Option.getD_some]
          exact ⟨trivial, _, List.getElem?_eq_getElem hlt, k2, (flat_one k2 (List.all_eq_true.1 h4 _ (List.getElem_mem hlt))).2⟩
        obtain ⟨f, hf⟩ := hch
        obtain ⟨k1, k2⟩ := chunks_ok (c := c) (w := w) (fun ha => by rw [h3 ha]) len (cs.drop off) ((List.range (len * s)).map f) h (by simp; omega) (by simp) (fun j t v a1 a2 => by
          have hj : j < len * s := by
            rcases Nat.lt_or_ge j (len * s) with h | h
            · exact h
            · rw [List.getElem?_eq_none (by simpa using h)] at a2; cases a2
          rw [List.getElem?_drop] at a1
          simp only [List.getElem?_map, List.getElem?_range hj, Option.map_some, Option.some.injEq] at a2
          subst a2
          obtain ⟨_, x, hx, hx2, hx3⟩ := hf j hj
          rw [hx] at a1; injection a1 with a1; subst a1
          exact ⟨hx2, hx3⟩)
        refine ⟨k2, h5, .inr ⟨b, z, cap, _, hγ, rfl, hc, hz, k1, fun j x hx => ?_⟩⟩
        have hj : j < len * s := by
          rcases Nat.lt_or_ge j (len * s) with h | h
          · exact h
          · rw [List.getElem?_eq_none (by simpa using h)] at hx; cases hx
        simp only [List.getElem?_map, List.getElem?_range hj, Option.map_some, Option.some.injEq] at hx
        subst hx
        exact (hf j hj).1
    · cases h
  · cases h
/-- A row's block goes on under a new id, from a place on, with so many cells more (of which nothing is told). -/
theorem Rel.rebase {w0 : World} {c : Cx} {S : TS} {w : World} (h : Rel w0 c S w) {id e b : Nat} {z : Nat × Nat} {cs : List TV} (hobj : S.objs id = .cells e cs) (hγ : c.γ id = some (b, z)) (off m : Nat) (h00 : off = 0) (ho : off ≤ cs.length) (hroom : z.1 + cs.length + m ≤ z.2) :
    ∃ c', Rel w0 c' ((S.set id .gone).push (.cells e (cs.drop off ++ List.replicate m .unk))) w ∧ Mono c w c' w ∧ c'.γ S.n = some (b, (z.1 + off, z.2)) := by
  let c' : Cx := { A := c.A, γ := fun i => if i = S.n then some (b, (z.1 + off, z.2)) else c.γ i, n := S.n + 1 }
  have hid := h.dom _ _ hγ
  have hob := h.obj id hid
  rw [hobj] at hob
  obtain ⟨g2, ⟨arr, fr, g3, gz, gl⟩, gf, g4, g5⟩ := hob.2 b z hγ
  have m1 : Mono c w c' w := by
    refine ⟨fun _ _ h => h, fun _ _ _ => rfl, fun id x hx => ?_, by have := h.cn; show c.n ≤ S.n + 1; omega⟩
    have := h.dom id x hx
    show (if id = S.n then _ else _) = _
    rw [if_neg (by omega)]; exact hx
  have hγn : c'.γ S.n = some (b, (z.1 + off, z.2)) := if_pos rfl
  have hlive : (S.objs id).live = true := by rw [hobj]; rfl
  refine ⟨c', ⟨h.below, ?_, ?_, ?_, h.cell, ?_, rfl⟩, m1, hγn⟩
  · intro k x hx
    show k < S.n + 1
    by_cases hk : k = S.n
    · omega
    · have : c.γ k = some x := by simpa [c', hk] using hx
      have := h.dom k x this; omega
  · intro k hk
    have hk' : k < S.n + 1 := hk
    rw [TS.push_objs, TS.set_n]
    by_cases hkn : k = S.n
    · rw [if_pos hkn]
      subst hkn
      refine ⟨fun hn => (by rw [hγn] at hn; cases hn), fun b2 z2 hz2 => ?_⟩
      rw [hγn] at hz2
      injection hz2 with hz2; injection hz2 with q1 q2; subst q1 q2
      have hld : (cs.drop off).length = cs.length - off := by simp
      refine ⟨g2, ⟨arr, fr, g3, gz, by simp only [List.length_append, List.length_replicate, hld]; omega⟩, gf, fun j x hx => ?_, g5⟩
      show ∃ v, w.cell? ⟨b, z.1 + off + j, none⟩ = some v ∧ RdT c' w x v
      rcases Nat.lt_or_ge j (cs.drop off).length with hj | hj
      · rw [List.getElem?_append_left hj, List.getElem?_drop] at hx
        obtain ⟨v, p1, p2⟩ := g4 (off + j) x hx
        exact ⟨v, by rw [Nat.add_assoc]; exact p1, p2.step m1⟩
      · rw [List.getElem?_append_right hj, List.getElem?_replicate] at hx
        split at hx
        · rename_i hjm
          injection hx with hx; subst hx
          have hlt : z.1 + off + j < arr.size := by omega
          exact ⟨arr[z.1 + off + j], by simp [World.cell?, g3, hlt], .unk _⟩
        · cases hx
    · rw [if_neg hkn, TS.set_objs]
      by_cases hki : k = id
      · rw [if_pos hki]; trivial
      · rw [if_neg hki]
        exact (h.obj k (by omega)).keep m1 (by simp [c', hkn]) (fun _ b' e' _ => ⟨rfl, fun _ h => h⟩)
  · intro i j b1 e1 e2 hi hj li lj gi gj
    have hi' : i < S.n + 1 := hi
    have hj' : j < S.n + 1 := hj
    rw [TS.push_objs, TS.set_n] at li lj
    have key : ∀ k, k ≠ S.n → (if k = S.n then TObj.cells e (cs.drop off ++ List.replicate m .unk) else (S.set id .gone).objs k).live = true → k ≠ id ∧ (S.objs k).live = true := by
      intro k hk hl
      rw [if_neg hk, TS.set_objs] at hl
      by_cases hki : k = id
      · rw [if_pos hki] at hl; cases hl
      · rw [if_neg hki] at hl; exact ⟨hki, hl⟩
    by_cases hin : i = S.n
    · by_cases hjn : j = S.n
      · omega
      · obtain ⟨k1, k2⟩ := key j hjn lj
        have gj' : c.γ j = some (b1, e2) := by simpa [c', hjn] using gj
        have gb : b = b1 := by
          rw [hin, hγn] at gi
          injection gi with gi; injection gi
        subst gb
        exact absurd (h.inj j id b e2 z (by omega) hid k2 hlive gj' hγ) k1
    · obtain ⟨k1, k2⟩ := key i hin li
      have gi' : c.γ i = some (b1, e1) := by simpa [c', hin] using gi
      by_cases hjn : j = S.n
      · have gb : b = b1 := by
          rw [hjn, hγn] at gj
          injection gj with gj; injection gj
        subst gb
        exact absurd (h.inj i id b e1 z (by omega) hid k2 hlive gi' hγ) k1
      · obtain ⟨q1, q2⟩ := key j hjn lj
        have gj' : c.γ j = some (b1, e2) := by simpa [c', hjn] using gj
        exact h.inj i j b1 e1 e2 (by omega) (by omega) k2 q2 gi' gj'
  · intro k hk
    have hk' : S.n + 1 ≤ k := hk
    rw [TS.push_objs, TS.set_n, if_neg (by omega), TS.set_objs]
    split
    · rfl
    · exact h.wf k (by omega)
/-- The cells of data. -/
def cellD : D → List TV
  | .agg cs => cs.map ofD1
  | d => [ofD1 d]
def cellsD (ds : List D) : List TV := ds.flatMap cellD
theorem cellsD_nil : cellsD [] = [] := rfl
theorem cellsD_cons (d : D) (ds : List D) : cellsD (d :: ds) = cellD d ++ cellsD ds := rfl
theorem cellsD_app (a b : List D) : cellsD (a ++ b) = cellsD a ++ cellsD b := by simp [cellsD]
theorem RdE.cells {c : Cx} {w : World} {d : D} {vs : List Value} (h : RdE c.A w d vs) : vs.length = (cellD d).length ∧ ∀ (j : Nat) t v, (cellD d)[j]? = some t → vs[j]? = some v → RdT c w t v := by
  cases h with
  | one d v hna h1 h =>
    have hc : cellD d = [ofD1 d] := by cases d <;> first | rfl | cases hna
    rw [hc]
    refine ⟨rfl, fun j t u h2 h3 => ?_⟩
    cases j with
    | zero => simp at h2 h3; subst h2 h3; exact rd_ofD1 h
    | succ j => simp at h2
  | agg cs vs hl hna h1 h =>
    refine ⟨by simp [cellD, hl], fun j t u h2 h3 => ?_⟩
    simp only [cellD, List.getElem?_map] at h2
    obtain ⟨d, hd, rfl⟩ := Option.map_eq_some_iff.1 h2
    exact rd_ofD1 (h j d u hd h3)
theorem RdEs.cells {c : Cx} {w : World} {s : Nat} : ∀ (ds : List D) (vs : List Value), RdEs c.A w s ds vs → RdCells c w (cellsD ds) vs.toArray
  | [], vs, h => by
    have : vs = [] := List.eq_nil_of_length_eq_zero (by have := h.len; simpa using this)
    subst this
    exact ⟨rfl, fun j t v h _ => by simp [cellsD] at h⟩
  | d :: ds, vs, h => by
    have hl := h.len
    simp only [List.length_cons, Nat.add_mul, Nat.one_mul] at hl
    have h0 := h.el 0 d (by simp)
    rw [Nat.zero_mul, List.drop_zero] at h0
    obtain ⟨k1, k2⟩ := h0.cells
    have htl : (vs.take s).length = s := by simp; omega
    have hrest : RdEs c.A w s ds (vs.drop s) := ⟨by simp; omega, fun i d' hd => by
      have := h.el (i + 1) d' (by simpa using hd)
      rwa [List.drop_drop, Nat.add_comm s, ← Nat.succ_mul]⟩
    have ih := RdEs.cells ds (vs.drop s) hrest
    rw [htl] at k1
    refine ⟨?_, fun j t v h1 h2 => ?_⟩
    · have := ih.size
      simp only [List.size_toArray, List.length_drop] at this
      rw [cellsD_cons, List.length_append, ← k1, ← this]
      simp; omega
    · rw [cellsD_cons] at h1
      rcases Nat.lt_or_ge j s with hj | hj
      · rw [List.getElem?_append_left (by omega)] at h1
        refine k2 j t v h1 ?_
        rw [List.getElem?_take, if_pos hj]
        simpa using h2
      · rw [List.getElem?_append_right (by omega), ← k1] at h1
        refine ih.rd (j - s) t v h1 ?_
        simp only [List.getElem?_toArray, List.getElem?_drop]
        rw [show s + (j - s) = j by omega]
        simpa using h2
theorem spl_append (xs : List TV) : ∀ (ys a rest : List TV), a.length = ys.length → spl (xs ++ a ++ rest) xs.length ys = xs ++ ys ++ rest := by
  intro ys
  induction ys generalizing xs with
  | nil => intro a rest h; have : a = [] := List.eq_nil_of_length_eq_zero h; subst this; simp [spl]
  | cons y ys ih =>
    intro a rest h
    match a, h with
    | a0 :: a, h =>
      simp only [spl]
      have h1 : (xs ++ a0 :: a ++ rest).set xs.length y = (xs ++ [y]) ++ a ++ rest := by
        rw [List.append_assoc, List.set_append]
        simp
      rw [h1]
      have := ih (xs ++ [y]) a rest (by simpa using h)
      rw [List.length_append, List.length_singleton] at this
      rw [this]; simp
theorem push_selfV (S : TS) (o : TObj) : (S.push o).objs S.n = o := by simp [TS.push]
theorem TS.push_setV (S : TS) (o o' : TObj) : (S.push o).set S.n o' = S.push o' := by
  unfold TS.push TS.set
  congr 1
  funext i
  by_cases h : i = S.n <;> simp [h]
/-- A row that may be written grows. -/
theorem e_appendV {E : Env} {o : Oper} {T : Nat → TV} {S : TS} {x y : Operand} {t u e : TypeId} (ho : o.op = .call { callee := .builtin .append, args := #[x, y], argTypes := #[t, u] }) {i j iu : TI} {id off s len : Nat} {cs : List TV} {ys : List D} {K : TV → TS → Prop}
    (ht : tiOf E.P t = some i) (hd : i.desc = .slice e) (hj : tiOf E.P e = some j) (hu : tiOf E.P u = some iu) (hnu : ∀ k, iu.desc ≠ .int k)
    (hx : evO E T x = .vs id off s len) (hobj : S.objs id = .cells e cs) (hs : s = j.size) (hoff0 : off = 0) (hend : off + len * s = cs.length) (hy : srcD S (isAggD j.desc) j.size (evO E T y) = some ys)
    (hb : (len + ys.length) * j.bytes ≤ LIM) (hb0 : 0 < j.bytes) (hz : j.zero.cells.size = j.size) (h0 : 0 < j.size)
    (hK : K (.vs S.n 0 s (len + ys.length)) ((S.set id .gone).push (.cells e (cs.drop off ++ cellsD ys)))) : ESem E o T S K := by
  refine .of_run fun w0 c w a hk hop => ?_
  rw [ho] at hop
  have h1 := hop x (by simp [Op.operands, Call.operands])
  have h2 := hop y (by simp [Op.operands, Call.operands])
  rw [hx] at h1
  have hred : ∀ v w', (Builtin.append_ #[t, u] o.type #[a.eval x, a.eval y]).run E.P w = .ok v w' → (execOp a.eval o).run E.P w = .ok (.value v) w' := by
    intro v w' h
    unfold execOp
    rw [ho]
    simp only [resolve, Sem.run_bind, Sem.run_pure, Result.andThen_ok, invoke, builtin, List.map_toArray, List.map_cons, List.map_nil, h]
  generalize hvx : a.eval x = vx at h1
  generalize hvy : a.eval y = vy at h2
  rw [hvx, hvy] at hred
  obtain ⟨news, hlen, hfirst, hnews, _, _⟩ := srcD_ok hk h2 hy
  subst hs
  have hlim : len + ys.length ≤ LIM := Nat.le_trans (Nat.le_mul_of_pos_right _ hb0) hb
  have hnl : news.length = ys.length * j.size := hnews.len
  have hLIM : LIM = 140737488355328 := rfl
  have hcy := RdEs.cells (c := c) ys news hnews
  have hcyl : (cellsD ys).length = ys.length * j.size := by have := hcy.size; simp at this; omega
  -- the old cells
  have hold : ∃ (ad : Option Addr) (cap : Nat) (olds : List Value), vx = .slice ad len cap ∧ len ≤ cap ∧ olds.length = len * j.size ∧ RdCells c w (cs.drop off) olds.toArray ∧ (∀ w2 : World, w2.heap = w.heap → (Builtin.firstCells j.size len (.slice ad len cap)).run E.P w2 = .ok olds.toArray w2) ∧
      ((cap = 0 ∧ len = 0) ∨ ∃ b z, c.γ id = some (b, z) ∧ ad = some ⟨b, z.1 + off, none⟩ ∧ z.1 + off + cap * j.size ≤ z.2) := by
    cases h1 with
    | vsN _ _ _ ad hn =>
      have hdr : cs.drop off = [] := List.drop_of_length_le (by omega)
      refine ⟨ad, 0, [], rfl, Nat.le_refl _, by simp, by rw [hdr]; exact ⟨rfl, fun j t v h _ => by simp at h⟩, fun w2 _ => ?_, .inl ⟨rfl, rfl⟩⟩
      cases ad with
      | none => simp [Builtin.firstCells]
      | some a => simp [Builtin.firstCells, loadCells, loadCellsFrom]
    | vs _ _ _ _ cap b z hγ hc hz =>
      have hob := hk.rel.obj id (hk.rel.dom _ _ hγ)
      rw [hobj] at hob
      obtain ⟨_, _, _, g4, _⟩ := hob.2 b z hγ
      have hch : ∃ f : Nat → Value, ∀ q, q < len * j.size → w.cell? ⟨b, z.1 + off + q, none⟩ = some (f q) ∧ ∃ x, cs[off + q]? = some x ∧ RdT c w x (f q) := by
        refine ⟨fun q => (w.cell? ⟨b, z.1 + off + q, none⟩).getD default, fun q hq => ?_⟩
        have hlt : off + q < cs.length := by omega
        obtain ⟨v, k1, k2⟩ := g4 (off + q) _ (List.getElem?_eq_getElem hlt)
        rw [← Nat.add_assoc] at k1
        simp only [k1, Option.getD_some]
        exact ⟨trivial, _, List.getElem?_eq_getElem hlt, k2⟩
      obtain ⟨f, hf⟩ := hch
      refine ⟨_, cap, (List.range (len * j.size)).map f, rfl, hc, by simp, ⟨by simp; omega, fun q t v a1 a2 => ?_⟩, fun w2 hw => ?_, .inr ⟨b, z, hγ, rfl, hz⟩⟩
      · have hq : q < len * j.size := by
          rcases Nat.lt_or_ge q (len * j.size) with h | h
          · exact h
          · rw [List.getElem?_toArray, List.getElem?_eq_none (by simpa using h)] at a2; cases a2
        rw [List.getElem?_drop] at a1
        simp only [List.getElem?_toArray, List.getElem?_map, List.getElem?_range hq, Option.map_some, Option.some.injEq] at a2
        subst a2
        obtain ⟨_, x, hx1, hx2⟩ := hf q hq
        rw [hx1] at a1; injection a1 with a1; subst a1
        exact hx2
      · refine run_firstCells_some w2 j.size len ⟨b, z.1 + off, none⟩ len cap _ (by simp) fun q v hv => ?_
        have hq : q < len * j.size := by
          rcases Nat.lt_or_ge q (len * j.size) with h | h
          · exact h
          · rw [List.getElem?_eq_none (by simpa using h)] at hv; cases hv
        simp only [List.getElem?_map, List.getElem?_range hq, Option.map_some, Option.some.injEq] at hv
        subst hv
        rw [addr_add]
        have : w2.cell? ⟨b, z.1 + off + q, none⟩ = w.cell? ⟨b, z.1 + off + q, none⟩ := by unfold World.cell?; rw [hw]
        rw [this]; exact (hf q hq).1
  obtain ⟨ad, cap, olds, rfl, hcap, hol, hocells, hofirst, hform⟩ := hold
  by_cases hfit : len + ys.length ≤ cap
  · have hrun := run_append_fits (ty := o.type) (tyIs ht) hd (tyIs hj) (tyIs hu) hnu ad len cap vy ys.length news hlen (hfirst w rfl) hfit
    rcases hform with ⟨rfl, rfl⟩ | ⟨b, z, hγ, rfl, hroom⟩
    · have hy0 : ys = [] := List.eq_nil_of_length_eq_zero (by omega)
      subst hy0
      have hn0 : news = [] := List.eq_nil_of_length_eq_zero (by simpa using hnl)
      subst hn0
      have hdr : cs.drop off = [] := List.drop_of_length_le (by omega)
      rw [hdr] at hK
      obtain ⟨c', r1, r2, _, r4⟩ := (hk.rel.drop id).virtual' (.cells e []) (.inr ⟨e, rfl⟩)
      refine ⟨.slice ad 0 0, w, .inl (hred _ _ ?_), _, c', _, hk.step r1 r2, r2, .vsN _ _ _ _ (by rw [r4]; show S.n < S.n + 1; omega), hK⟩
      rw [hrun]
      cases ad <;> simp [storeCells]
    · have hmul : (len + ys.length) * j.size ≤ cap * j.size := Nat.mul_le_mul_right _ hfit
      rw [Nat.add_mul] at hmul
      obtain ⟨c', r, m, gn⟩ := hk.rel.rebase hobj hγ off (ys.length * j.size) hoff0 (by omega) (by omega)
      have hdl : (cs.drop off).length = len * j.size := by simp; omega
      obtain ⟨w', k1, k2, k3⟩ := Rel.storeN (P := E.P) (off := len * j.size) news (cellsD ys) 0 r (push_selfV _ _) gn (by simp only [List.length_append, List.length_replicate, hdl, hcyl]; omega) (hcy.step m) hnews.flat
      rw [TS.push_setV] at k2
      have hsp := spl_append (cs.drop off) (cellsD ys) (List.replicate (ys.length * j.size) .unk) [] (by simp [hcyl])
      simp only [List.append_nil] at hsp
      rw [Nat.add_zero, ← hdl, hsp] at k2
      refine ⟨.slice (some ⟨b, z.1 + off, none⟩) (len + ys.length) cap, w', .inl (hred _ _ ?_), _, c', _, hk.step k2 (m.trans k3), m.trans k3, ?_, hK⟩
      · rw [hrun]
        simp only [addr_add]
        have e1 : z.1 + off + len * j.size = (z.1 + off, z.2).1 + len * j.size := rfl
        rw [e1, k1]; rfl
      · exact .vs _ 0 _ _ _ _ _ gn hfit (by simpa using hroom)
  · have hd1 := hk.rel.drew
    have hbb : (len + ys.length) * j.bytes ≤ 140737488355328 := hb
    have h63 : ((len + ys.length : Nat) : Int) ≤ 9223372036854775807 := by omega
    have hrun := run_append_grows (ty := o.type) (w := w) (tyIs ht) hd (tyIs hj) (tyIs hu) hnu ad len cap vy ys.length olds news hlen (hfirst w.drew rfl) (hofirst w.drew rfl) hfit h63 (growslice_fits (by omega) hbb)
    generalize hnc : grownCap w (len + ys.length) cap e = nc at hrun
    have hncge : len + ys.length ≤ nc := by rw [← hnc]; exact grown_ge w _ _ _
    generalize hcells : olds.toArray ++ news.toArray ++ Builtin.zeroCells j.zero.cells (nc - (len + ys.length)) = arr at hrun
    have hdl : (cs.drop off).length = len * j.size := by simp; omega
    have hrest : (Builtin.zeroCells j.zero.cells (nc - (len + ys.length))).size = (nc - (len + ys.length)) * j.size := by rw [size_zeroCells, hz]
    have hasz : arr.size = nc * j.size := by
      rw [← hcells]
      simp only [Array.size_append, List.size_toArray, hrest, hol, hnl]
      rw [← Nat.add_mul, ← Nat.add_mul]
      congr 1; omega
    have hrd : RdCells c w.drew (cs.drop off ++ cellsD ys ++ List.replicate ((nc - (len + ys.length)) * j.size) .unk) arr := by
      refine ⟨by rw [hasz]; simp only [List.length_append, List.length_replicate, hdl, hcyl]; rw [← Nat.add_mul, ← Nat.add_mul]; congr 1; omega, fun q t v a1 a2 => ?_⟩
      rw [← hcells] at a2
      rcases Nat.lt_or_ge q (len * j.size) with hq | hq
      · rw [List.getElem?_append_left (by simp only [List.length_append, hdl]; omega), List.getElem?_append_left (by omega)] at a1
        rw [Array.getElem?_append_left (by simp [hol]; omega), Array.getElem?_append_left (by simp [hol]; omega)] at a2
        exact (hocells.rd q t v a1 a2).step hd1.2
      · rcases Nat.lt_or_ge q (len * j.size + ys.length * j.size) with hq2 | hq2
        · rw [List.getElem?_append_left (by simp only [List.length_append, hdl, hcyl]; omega), List.getElem?_append_right (by omega), hdl] at a1
          rw [Array.getElem?_append_left (by simp [hol, hnl]; omega), Array.getElem?_append_right (by simp [hol]; omega)] at a2
          simp only [List.size_toArray, hol] at a2
          exact (hcy.rd _ t v a1 a2).step hd1.2
        · rw [List.getElem?_append_right (by simp only [List.length_append, hdl, hcyl]; omega), List.getElem?_replicate] at a1
          split at a1
          · injection a1 with a1; subst a1; exact .unk _
          · cases a1
    obtain ⟨c', r, m, g⟩ := (hd1.1.drop id).newCells e _ arr hrd
    have r2 := r.trunc (push_selfV _ _) (len * j.size + ys.length * j.size)
    rw [TS.push_setV, List.take_append_of_le_length (by simp only [List.length_append, hdl, hcyl]; omega), List.take_of_length_le (by simp only [List.length_append, hdl, hcyl]; omega)] at r2
    have mm : Mono c w c' (w.drew.alloc (.cells arr e)) := hd1.2.trans m
    refine ⟨_, _, .inl (hred _ _ hrun), _, c', _, hk.step r2 mm, mm, ?_, hK⟩
    exact .vs _ 0 _ _ nc _ _ g hncge (by simp [hasz])
end Go.Proofs.YtlljknmojafkoaaGreatDoor.TL
namespace Go.Proofs.YtlljknmojafkoaaGreatDoor.TL
open Go.RowKit Go.MapKept
def keyEq : Value → Value → Bool
  | .int _ a, .int _ b => a == b
  | .string a, .string b => a == b
  | .bool a, .bool b => a == b
  | _, _ => false
def isKeyB : TypeDesc → Value → Bool
  | .bool, .bool _ => true
  | .int k, .int k' _ => decide (k' = k)
  | .string, .string _ => true
  | _, _ => false
theorem isKeyB_ok {d : TypeDesc} {v : Value} (h : isKeyB d v = true) : IsKey d v := by
  unfold isKeyB at h
  split at h
  · trivial
  · rename_i k k' n; exact (of_decide_eq_true h : k' = k)
  · trivial
  · cases h
abbrev Ents := List (Value × Nat × TV)
def findT (k : Value) (es : Ents) : Option Nat := es.findIdx? fun e => keyEq k e.1
def keysOk (d : TypeDesc) (es : Ents) : Bool := es.all fun e => isKeyB d e.1
theorem findNow_first {d : TypeDesc} {k : Value} (hk : IsKey d k) : ∀ (l : List MapEntry) (i : Nat), (∀ x ∈ l, IsKey d x.key) →
    Instr.findNow d k l i = some (match l.findIdx? fun e => keyEq k e.key with | none => none | some j => some (i + j, ((l[j]?).map (·.val)).getD default))
  | [], i, _ => rfl
  | e :: l, i, h => by
    have ih := findNow_first hk l (i + 1) fun x hx => h x (List.mem_cons_of_mem _ hx)
    have he := h e (by simp)
    have hs : Instr.sameNow d k e.key = some (keyEq k e.key) := by
      cases d <;> cases k <;> simp_all [IsKey] <;> cases hek : e.key <;> simp_all [Instr.sameNow, keyEq]
    rw [Instr.findNow, hs, List.findIdx?_cons]
    cases hb : keyEq k e.key with
    | true => simp
    | false =>
      simp only [ih, Bool.false_eq_true, if_false]
      cases l.findIdx? fun e => keyEq k e.key with
      | none => rfl
      | some j => simp; omega
theorem keyEq_eq {d : TypeDesc} {a b : Value} (ha : IsKey d a) (hb : IsKey d b) (h : keyEq a b = true) : a = b := by
  cases d <;> cases a <;> simp_all [IsKey] <;> cases b <;> simp_all [keyEq, IsKey, bytes_beq]
structure RdM (c : Cx) (w : World) (es : Ents) (ents : Array MapEntry) : Prop where
  size : ents.size = es.length
  rd : ∀ (j : Nat) x m, es[j]? = some x → ents[j]? = some m → m.key = x.1 ∧ m.born = x.2.1 ∧ RdT c w x.2.2 m.val
theorem RdM.step {c c' : Cx} {w w' : World} {es : Ents} {ents : Array MapEntry} (m : Mono c w c' w') (h : RdM c w es ents) : RdM c' w' es ents :=
  ⟨h.size, fun j x e h1 h2 => let ⟨a, b, d⟩ := h.rd j x e h1 h2; ⟨a, b, d.step m⟩⟩
theorem RdM.find {c : Cx} {w : World} {es : Ents} {ents : Array MapEntry} (h : RdM c w es ents) (k : Value) : (ents.toList.findIdx? fun e => keyEq k e.key) = findT k es := by
  have hm : ents.toList.map (·.key) = es.map (·.1) := by
    apply List.ext_getElem?
    intro j
    rw [List.getElem?_map, List.getElem?_map]
    rcases Nat.lt_or_ge j es.length with hj | hj
    · have h1 : es[j]? = some es[j] := List.getElem?_eq_getElem hj
      have h2 : ents[j]? = some (ents[j]'(by rw [h.size]; exact hj)) := Array.getElem?_eq_getElem _
      rw [Array.getElem?_toList, h1, h2]
      simp [(h.rd j _ _ h1 h2).1]
    · rw [List.getElem?_eq_none hj, List.getElem?_eq_none (by rw [Array.length_toList, h.size]; exact hj)]; rfl
  have e1 : (ents.toList.findIdx? fun e => keyEq k e.key) = (ents.toList.map (·.key)).findIdx? (keyEq k) := by rw [List.findIdx?_map]; rfl
  have e2 : findT k es = (es.map (·.1)).findIdx? (keyEq k) := by rw [List.findIdx?_map]; rfl
  rw [e1, e2, hm]
theorem RdM.keys {c : Cx} {w : World} {es : Ents} {ents : Array MapEntry} (h : RdM c w es ents) {d : TypeDesc} (hk : keysOk d es = true) : ∀ x ∈ ents.toList, IsKey d x.key := by
  intro x hx
  obtain ⟨j, hj⟩ := List.mem_iff_getElem?.1 hx
  rw [Array.getElem?_toList] at hj
  have hlt : j < es.length := by rw [← h.size]; exact (Array.getElem?_eq_some_iff.1 hj).1
  have h1 : es[j]? = some es[j] := List.getElem?_eq_getElem hlt
  rw [(h.rd j _ _ h1 hj).1]
  exact isKeyB_ok (List.all_eq_true.1 hk _ (List.getElem_mem hlt))
theorem map_get {E : Env} {w0 : World} {c : Cx} {S : TS} {w : World} (hk : Ok E w0 c S w) {id clock : Nat} {es : Ents} {v : Value} (hr : RdT c w (.mp id) v) (hobj : S.objs id = .map es clock) :
    ∃ b e ents, v = .map (some b) ∧ c.γ id = some (b, e) ∧ w0.heap.size ≤ b ∧ w.heap[b]? = some (.map ents clock) ∧ RdM c w es ents := by
  cases hr with
  | mp _ b e hγ =>
    have hob := hk.rel.obj id (hk.rel.dom _ _ hγ)
    rw [hobj] at hob
    obtain ⟨b', e', g1, g2, ents, g3, g4, g5⟩ := hob
    rw [hγ] at g1
    injection g1 with g1; injection g1 with g1 g1'; subst g1 g1'
    exact ⟨b, e, ents, rfl, hγ, g2, g3, ⟨g4, g5⟩⟩
def valAt (es : Ents) (j : Nat) : TV := ((es[j]?).map (·.2.2)).getD .unk
def bornAt (es : Ents) (j : Nat) : Nat := ((es[j]?).map (·.2.1)).getD 0
def lookT (k : Value) (es : Ents) (z : TV) : TV := match findT k es with | some j => valAt es j | none => z
theorem findT_lt {k : Value} {es : Ents} {j : Nat} (h : findT k es = some j) : j < es.length := by
  obtain ⟨h1, _⟩ := List.findIdx?_eq_some_iff_getElem.1 h
  exact h1
theorem findT_key {k : Value} {es : Ents} {j : Nat} (h : findT k es = some j) : keyEq k (es[j]'(findT_lt h)).1 = true := by
  obtain ⟨_, h2, _⟩ := List.findIdx?_eq_some_iff_getElem.1 h
  exact h2
theorem q_lookup {E : Env} {o : Oper} {T : Nat → TV} {S : TS} {t : TypeId} {x y : Operand} {ok : Bool} (ho : o.op = .lookup t x y ok) {i ik ie : TI} {kt et id clock : Nat} {es : Ents} {k : Value}
    (ht : tiOf E.P t = some i) (hd : i.desc = .map kt et) (hik : tiOf E.P kt = some ik) (hie : tiOf E.P et = some ie) (hx : evO E T x = .mp id) (hy : evO E T y = .lit k) (hobj : S.objs id = .map es clock)
    (hkk : isKeyB ik.desc k = true) (hks : keysOk ik.desc es = true) : QSem E o T S (if ok then .tup [lookT k es (ofConst ie.zero), .lit (.bool (findT k es).isSome)] else lookT k es (ofConst ie.zero)) := by
  intro w0 c w a hk hop
  rw [ho] at hop
  have h1 := hop x (by simp [Op.operands])
  have h2 := hop y (by simp [Op.operands])
  rw [hx] at h1; rw [hy] at h2
  have e2 := h2.lit_inv
  obtain ⟨b, e, ents, hv, hγ, _, hb, hm⟩ := map_get hk h1 hobj
  have hu : E.P.underlying t = some (.map kt et) := by rw [(tyIs ht).und, hd]
  have hf := findNow_first (isKeyB_ok hkk) ents.toList 0 (hm.keys hks)
  rw [hm.find k] at hf
  have hrun : ∃ u, RdT c w (lookT k es (ofConst ie.zero)) u ∧ (Instr.lookup t (.map (some b)) k ok).run E.P w = .ok (if ok then .tuple #[u, .bool (findT k es).isSome] else u) w := by
    cases hfd : findT k es with
    | none =>
      rw [hfd] at hf
      refine ⟨ie.zero, by rw [lookT, hfd]; exact rd_const c w _, ?_⟩
      simp only [Instr.lookup, Sem.run_bind, run_underlying hu, Result.andThen_ok, MapKept.run_getObj_map hb, Sem.run_pure, run_checkKey (tyIs hik).und (isKeyB_ok hkk), run_findKey (tyIs hik).und hf, (tyIs hie).run_zero, Option.isSome_none]
    | some j =>
      rw [hfd] at hf
      have hj := findT_lt hfd
      have hej : ents[j]? = some (ents[j]'(by rw [hm.size]; exact hj)) := Array.getElem?_eq_getElem _
      have hr := (hm.rd j _ _ (List.getElem?_eq_getElem hj) hej).2.2
      refine ⟨(ents[j]'(by rw [hm.size]; exact hj)).val, ?_, ?_⟩
      · simp only [lookT, hfd, valAt, List.getElem?_eq_getElem hj, Option.map_some, Option.getD_some]; exact hr
      · simp only [Array.getElem?_toList, hej, Option.map_some, Option.getD_some] at hf
        simp only [Instr.lookup, Sem.run_bind, run_underlying hu, Result.andThen_ok, MapKept.run_getObj_map hb, Sem.run_pure, run_checkKey (tyIs hik).und (isKeyB_ok hkk), run_findKey (tyIs hik).und hf, Option.isSome_some]
  obtain ⟨u, hu1, hu2⟩ := hrun
  refine ⟨if ok then .tuple #[u, .bool (findT k es).isSome] else u, ?_, ?_⟩
  · unfold execOp
    rw [ho]
    simp only [hv, e2, Sem.run_bind, hu2, Result.andThen_ok, Sem.run_pure]
  · cases ok with
    | false => exact hu1
    | true =>
      refine .tup _ _ rfl fun j t v h3 h4 => ?_
      match j with
      | 0 => simp at h3 h4; subst h3; subst h4; exact hu1
      | 1 => simp at h3 h4; subst h3; subst h4; exact .lit _
      | j + 2 => simp at h3
def lkT (ok : Bool) (v : TV) (b : Bool) : TV := if ok then .tup [v, .lit (.bool b)] else v
theorem q_lookupNil {E : Env} {o : Oper} {T : Nat → TV} {S : TS} {t : TypeId} {x y : Operand} {ok : Bool} (ho : o.op = .lookup t x y ok) {i ik ie : TI} {kt et : Nat} {k : Value}
    (ht : tiOf E.P t = some i) (hd : i.desc = .map kt et) (hik : tiOf E.P kt = some ik) (hie : tiOf E.P et = some ie) (hx : evO E T x = .lit (.map none)) (hy : evO E T y = .lit k)
    (hkk : isKeyB ik.desc k = true) : QSem E o T S (lkT ok (ofConst ie.zero) false) := by
  intro w0 c w a hk hop
  rw [ho] at hop
  have h1 := hop x (by simp [Op.operands])
  have h2 := hop y (by simp [Op.operands])
  rw [hx] at h1; rw [hy] at h2
  have e1 := h1.lit_inv
  have e2 := h2.lit_inv
  have hu : E.P.underlying t = some (.map kt et) := by rw [(tyIs ht).und, hd]
  have hf : Instr.findNow ik.desc k [] 0 = some none := rfl
  refine ⟨if ok then .tuple #[ie.zero, .bool false] else ie.zero, ?_, ?_⟩
  · unfold execOp
    rw [ho]
    simp only [e1, e2, Instr.lookup, Sem.run_bind, run_underlying hu, Result.andThen_ok, Sem.run_pure, run_checkKey (tyIs hik).und (isKeyB_ok hkk), run_findKey (tyIs hik).und hf, (tyIs hie).run_zero]
  · cases ok with
    | false => exact rd_const c w _
    | true =>
      refine .tup _ _ rfl fun j t v h3 h4 => ?_
      match j with
      | 0 => simp at h3 h4; subst h3; subst h4; exact rd_const c w _
      | 1 => simp at h3 h4; subst h3; subst h4; exact .lit _
      | j + 2 => simp at h3
/-- A map's entries are changed. -/
theorem Rel.setMap {w0 : World} {c : Cx} {S : TS} {w : World} (h : Rel w0 c S w) {id b clock clock' : Nat} {e : Nat × Nat} {es es' : Ents} {ents ents' : Array MapEntry} (hobj : S.objs id = .map es clock) (hγ : c.γ id = some (b, e)) (hw0 : w0.heap.size ≤ b)
    (hb : w.heap[b]? = some (.map ents clock)) (hm : RdM c w es' ents') : Rel w0 c (S.set id (.map es' clock')) { w with heap := w.heap.setIfInBounds b (.map ents' clock') } ∧ Mono c w c { w with heap := w.heap.setIfInBounds b (.map ents' clock') } := by
  have hid := h.dom _ _ hγ
  obtain ⟨g1, g2⟩ := heap_set (o' := .map ents' clock') hb
  have hnA : ∀ j, ¬ c.A b j := by
    intro j ha
    obtain ⟨v, hv⟩ := h.cell b j ha
    simp [World.cell?, hb] at hv
  refine h.change id _ b e hid hγ (by rw [hobj]; rfl) hw0 (by simp) ⟨rfl, rfl, rfl⟩ (fun k hk => g2 k hk) (fun j ha => absurd ha (hnA j)) fun m => ?_
  have hm' := hm.step m
  exact ⟨b, e, hγ, hw0, ents', g1, hm'.size, hm'.rd⟩
def putE (k : Value) (v : TV) (es : Ents) (clock : Nat) : Ents := match findT k es with | some j => es.modify j fun e => (k, e.2.1, v) | none => es ++ [(k, clock, v)]
def clkE (k : Value) (es : Ents) (clock : Nat) : Nat := match findT k es with | some _ => clock | none => clock + 1
theorem RdM.push {c : Cx} {w : World} {es : Ents} {ents : Array MapEntry} (h : RdM c w es ents) {k : Value} {n : Nat} {t : TV} {v : Value} (hr : RdT c w t v) : RdM c w (es ++ [(k, n, t)]) (ents.push { key := k, val := v, born := n }) := by
  refine ⟨by simp [h.size], fun j x m h1 h2 => ?_⟩
  rcases Nat.lt_or_ge j es.length with hj | hj
  · rw [List.getElem?_append_left hj] at h1
    rw [Array.getElem?_push, if_neg (by rw [h.size]; omega)] at h2
    exact h.rd j x m h1 h2
  · rw [List.getElem?_append_right hj] at h1
    have hje : j = es.length := by
      rcases Nat.lt_or_ge es.length j with h3 | h3
      · rw [List.getElem?_eq_none (by simp; omega)] at h1; cases h1
      · omega
    subst hje
    rw [Nat.sub_self] at h1
    simp at h1
    rw [← h.size, Array.getElem?_push, if_pos rfl] at h2
    injection h2 with h2
    subst h1; subst h2
    exact ⟨rfl, rfl, hr⟩
theorem RdM.modify {c : Cx} {w : World} {es : Ents} {ents : Array MapEntry} (h : RdM c w es ents) (j : Nat) (f : Value × Nat × TV → Value × Nat × TV) (g : MapEntry → MapEntry)
    (hf : ∀ x m, es[j]? = some x → ents[j]? = some m → (g m).key = (f x).1 ∧ (g m).born = (f x).2.1 ∧ RdT c w (f x).2.2 (g m).val) : RdM c w (es.modify j f) (ents.modify j g) := by
  refine ⟨by simp [h.size], fun i x m h1 h2 => ?_⟩
  rw [List.getElem?_modify] at h1
  rw [Array.getElem?_modify] at h2
  by_cases hij : j = i
  · subst hij
    simp only [if_pos rfl] at h1 h2
    obtain ⟨x', hx', rfl⟩ := Option.map_eq_some_iff.1 h1
    obtain ⟨m', hm', rfl⟩ := Option.map_eq_some_iff.1 h2
    exact hf x' m' hx' hm'
  · simp only [if_neg hij] at h1 h2
    exact h.rd i x m (by simpa using h1) (by simpa using h2)
theorem e_mapUpdate {E : Env} {o : Oper} {T : Nat → TV} {S : TS} {t : TypeId} {x y z : Operand} (ho : o.op = .mapUpdate t x y z ∨ o.op = .insert t x y z) {i ik : TI} {kt et id clock : Nat} {es : Ents} {k : Value} {K : TV → TS → Prop}
    (ht : tiOf E.P t = some i) (hd : i.desc = .map kt et) (hik : tiOf E.P kt = some ik) (hx : evO E T x = .mp id) (hy : evO E T y = .lit k) (hobj : S.objs id = .map es clock)
    (hkk : isKeyB ik.desc k = true) (hks : keysOk ik.desc es = true) (hK : K .unk (S.set id (.map (putE k (evO E T z) es clock) (clkE k es clock)))) : ESem E o T S K := by
  refine .of_run fun w0 c w a hk hop => ?_
  have hops : RdT c w (evO E T x) (a.eval x) ∧ RdT c w (evO E T y) (a.eval y) ∧ RdT c w (evO E T z) (a.eval z) := by
    rcases ho with ho | ho <;> (rw [ho] at hop; exact ⟨hop x (by simp [Op.operands]), hop y (by simp [Op.operands]), hop z (by simp [Op.operands])⟩)
  obtain ⟨h1, h2, h3⟩ := hops
  rw [hx] at h1; rw [hy] at h2
  have e2 := h2.lit_inv
  obtain ⟨b, e, ents, hv, hγ, hw0, hb, hm⟩ := map_get hk h1 hobj
  have hu : E.P.underlying t = some (.map kt et) := by rw [(tyIs ht).und, hd]
  have hf := findNow_first (isKeyB_ok hkk) ents.toList 0 (hm.keys hks)
  rw [hm.find k] at hf
  have hrun : ∃ w', (Instr.mapUpdate t (.map (some b)) k (a.eval z)).run E.P w = .ok () w' ∧ Rel w0 c (S.set id (.map (putE k (evO E T z) es clock) (clkE k es clock))) w' ∧ Mono c w c w' := by
    cases hfd : findT k es with
    | none =>
      rw [hfd] at hf
      obtain ⟨r, m⟩ := hk.rel.setMap (clock' := clock + 1) hobj hγ hw0 hb (hm.push (k := k) (n := clock) h3)
      refine ⟨_, ?_, by rw [putE, clkE, hfd]; exact r, m⟩
      simp only [Instr.mapUpdate, Sem.run_bind, run_underlying hu, Result.andThen_ok, MapKept.run_getObj_map hb, Sem.run_pure, run_checkKey (tyIs hik).und (isKeyB_ok hkk), run_findKey (tyIs hik).und hf, run_setObj_map _ hb]
    | some j =>
      rw [hfd] at hf
      have hj := findT_lt hfd
      have hej : ents[j]? = some (ents[j]'(by rw [hm.size]; exact hj)) := Array.getElem?_eq_getElem _
      have hkey : (ents[j]'(by rw [hm.size]; exact hj)).key = k := by
        have hk1 := findT_key hfd
        rw [(hm.rd j _ _ (List.getElem?_eq_getElem hj) hej).1]
        exact (keyEq_eq (isKeyB_ok hkk) (isKeyB_ok (List.all_eq_true.1 hks _ (List.getElem_mem hj))) hk1).symm
      obtain ⟨r, m⟩ := hk.rel.setMap (clock' := clock) hobj hγ hw0 hb (hm.modify j (fun e => (k, e.2.1, evO E T z)) (fun e => { e with key := k, val := a.eval z }) (fun x m hx hm2 => ⟨rfl, (hm.rd j x m hx hm2).2.1, h3⟩))
      refine ⟨_, ?_, by rw [putE, clkE, hfd]; exact r, m⟩
      simp only [Instr.mapUpdate, Sem.run_bind, run_underlying hu, Result.andThen_ok, MapKept.run_getObj_map hb, Sem.run_pure, run_checkKey (tyIs hik).und (isKeyB_ok hkk), run_findKey (tyIs hik).und hf, Nat.zero_add, hej, Option.map_some, Option.getD_some, hkey, run_keyThatStays (isKeyB_ok hkk), run_setObj_map _ hb]
  obtain ⟨w', k1, k2, k3⟩ := hrun
  refine ⟨undef, w', .inr ⟨?_, rfl⟩, .unk, c, _, hk.step k2 k3, k3, .unk _, hK⟩
  unfold execOp
  rcases ho with ho | ho <;> rw [ho] <;> simp only [hv, e2, Sem.run_bind, k1, Result.andThen_ok, Sem.run_pure]
/-! ### an entry that is changed in place: first it is there, then it has its value -/
theorem e_mapEntry {E : Env} {o : Oper} {T : Nat → TV} {S : TS} {t : TypeId} {x y : Operand} (ho : o.op = .mapEntry t x y) {i ik ie : TI} {kt et id clock : Nat} {es : Ents} {k : Value} {K : TV → TS → Prop}
    (ht : tiOf E.P t = some i) (hd : i.desc = .map kt et) (hik : tiOf E.P kt = some ik) (hie : tiOf E.P et = some ie) (hx : evO E T x = .mp id) (hy : evO E T y = .lit k) (hobj : S.objs id = .map es clock)
    (hkk : isKeyB ik.desc k = true) (hks : keysOk ik.desc es = true)
    (hK : K (.tup [lookT k es (ofConst ie.zero), .lit (.int .i64 (match findT k es with | some j => (bornAt es j : Int) | none => (clock : Int)))]) (S.set id (.map (putE k (lookT k es (ofConst ie.zero)) es clock) (clkE k es clock)))) : ESem E o T S K := by
  refine .of_run fun w0 c w a hk hop => ?_
  rw [ho] at hop
  have h1 := hop x (by simp [Op.operands])
  have h2 := hop y (by simp [Op.operands])
  rw [hx] at h1; rw [hy] at h2
  have e2 := h2.lit_inv
  obtain ⟨b, e, ents, hv, hγ, hw0, hb, hm⟩ := map_get hk h1 hobj
  have hu : E.P.underlying t = some (.map kt et) := by rw [(tyIs ht).und, hd]
  have hf := findNow_first (isKeyB_ok hkk) ents.toList 0 (hm.keys hks)
  rw [hm.find k] at hf
  have hrun : ∃ w' u, (Instr.mapEntry t (.map (some b)) k).run E.P w = .ok (.tuple #[u, .int .i64 (match findT k es with | some j => (bornAt es j : Int) | none => (clock : Int))]) w' ∧ RdT c w (lookT k es (ofConst ie.zero)) u ∧
      Rel w0 c (S.set id (.map (putE k (lookT k es (ofConst ie.zero)) es clock) (clkE k es clock))) w' ∧ Mono c w c w' := by
    cases hfd : findT k es with
    | none =>
      rw [hfd] at hf
      have hz : lookT k es (ofConst ie.zero) = ofConst ie.zero := by simp only [lookT, hfd]
      obtain ⟨r, m⟩ := hk.rel.setMap (clock' := clock + 1) hobj hγ hw0 hb (hm.push (k := k) (n := clock) (rd_const c w ie.zero))
      refine ⟨_, ie.zero, ?_, by rw [hz]; exact rd_const c w _, by rw [hz, putE, clkE, hfd]; exact r, m⟩
      simp only [Instr.mapEntry, Sem.run_bind, run_underlying hu, Result.andThen_ok, MapKept.run_getObj_map hb, Sem.run_pure, run_checkKey (tyIs hik).und (isKeyB_ok hkk), run_findKey (tyIs hik).und hf, (tyIs hie).run_zero, run_setObj_map _ hb, goInt]
    | some j =>
      rw [hfd] at hf
      have hj := findT_lt hfd
      have hej : ents[j]? = some (ents[j]'(by rw [hm.size]; exact hj)) := Array.getElem?_eq_getElem _
      obtain ⟨p1, p2, p3⟩ := hm.rd j _ _ (List.getElem?_eq_getElem hj) hej
      have hkey : (ents[j]'(by rw [hm.size]; exact hj)).key = k := by
        have hk1 := findT_key hfd
        rw [p1]
        exact (keyEq_eq (isKeyB_ok hkk) (isKeyB_ok (List.all_eq_true.1 hks _ (List.getElem_mem hj))) hk1).symm
      have hz : lookT k es (ofConst ie.zero) = (es[j]).2.2 := by simp only [lookT, hfd, valAt, List.getElem?_eq_getElem hj, Option.map_some, Option.getD_some]
      obtain ⟨r, m⟩ := hk.rel.setMap (clock' := clock) hobj hγ hw0 hb (hm.modify j (fun e => (k, e.2.1, (es[j]).2.2)) (fun e => { e with key := k }) (fun x m hx hm2 => by
        obtain ⟨q1, q2, q3⟩ := hm.rd j x m hx hm2
        rw [List.getElem?_eq_getElem hj] at hx; injection hx with hx; subst hx
        exact ⟨rfl, q2, q3⟩))
      refine ⟨_, (ents[j]'(by rw [hm.size]; exact hj)).val, ?_, by rw [hz]; exact p3, by rw [hz, putE, clkE, hfd]; exact r, m⟩
      simp only [bornAt, List.getElem?_eq_getElem hj]
      simp only [Array.getElem?_toList, Nat.zero_add, hej, Option.map_some, Option.getD_some] at hf
      simp only [Instr.mapEntry, Sem.run_bind, run_underlying hu, Result.andThen_ok, MapKept.run_getObj_map hb, Sem.run_pure, run_checkKey (tyIs hik).und (isKeyB_ok hkk), run_findKey (tyIs hik).und hf, hej, Option.map_some, Option.getD_some, hkey, run_keyThatStays (isKeyB_ok hkk), run_setObj_map _ hb, goInt, p2]
  obtain ⟨w', u, k1, k2, k3, k4⟩ := hrun
  refine ⟨.tuple #[u, .int .i64 (match findT k es with | some j => (bornAt es j : Int) | none => (clock : Int))], w', .inl ?_, _, c, _, hk.step k3 k4, k4, ?_, hK⟩
  · unfold execOp
    rw [ho]
    simp only [hv, e2, Sem.run_bind, k1, Result.andThen_ok, Sem.run_pure]
  · refine .tup _ _ rfl fun j t v h3 h4 => ?_
    match j with
    | 0 => simp at h3 h4; subst h3; subst h4; exact k2.step k4
    | 1 => simp at h3 h4; subst h3; subst h4; exact .lit _
    | j + 2 => simp at h3
theorem e_entryStore {E : Env} {o : Oper} {T : Nat → TV} {S : TS} {t : TypeId} {x y z : Operand} (ho : o.op = .entryStore t x y z) {id clock j : Nat} {kk : IntKind} {n : Int} {es : Ents} {K : TV → TS → Prop}
    (hx : evO E T x = .mp id) (hy : evO E T y = .lit (.int kk n)) (hobj : S.objs id = .map es clock) (hj : (es.findIdx? fun e => (e.2.1 : Int) == n) = some j)
    (hK : K .unk (S.set id (.map (es.modify j fun e => (e.1, e.2.1, evO E T z)) clock))) : ESem E o T S K := by
  refine .of_run fun w0 c w a hk hop => ?_
  rw [ho] at hop
  have h1 := hop x (by simp [Op.operands])
  have h2 := hop y (by simp [Op.operands])
  have h3 := hop z (by simp [Op.operands])
  rw [hx] at h1; rw [hy] at h2
  have e2 := h2.lit_inv
  obtain ⟨b, e, ents, hv, hγ, hw0, hb, hm⟩ := map_get hk h1 hobj
  have hmb : ents.toList.map (·.born) = es.map (·.2.1) := by
    apply List.ext_getElem?
    intro q
    rw [List.getElem?_map, List.getElem?_map]
    rcases Nat.lt_or_ge q es.length with hq | hq
    · have g1 : es[q]? = some es[q] := List.getElem?_eq_getElem hq
      have g2 : ents[q]? = some (ents[q]'(by rw [hm.size]; exact hq)) := Array.getElem?_eq_getElem _
      rw [Array.getElem?_toList, g1, g2]
      simp [(hm.rd q _ _ g1 g2).2.1]
    · rw [List.getElem?_eq_none hq, List.getElem?_eq_none (by rw [Array.length_toList, hm.size]; exact hq)]; rfl
  have hfi : ents.findIdx? (fun e => (e.born : Int) == n) = some j := by
    have e1 : ents.findIdx? (fun e => (e.born : Int) == n) = ents.toList.findIdx? (fun e => (e.born : Int) == n) := by
      clear hm hmb hb
      obtain ⟨l⟩ := ents
      simp
    have e3 : (ents.toList.findIdx? fun e => (e.born : Int) == n) = (ents.toList.map (·.born)).findIdx? (fun q : Nat => (q : Int) == n) := by rw [List.findIdx?_map]; rfl
    have e4 : (es.findIdx? fun e => (e.2.1 : Int) == n) = (es.map (·.2.1)).findIdx? (fun q : Nat => (q : Int) == n) := by rw [List.findIdx?_map]; rfl
    rw [e1, e3, hmb, ← e4, hj]
  obtain ⟨r, m⟩ := hk.rel.setMap (clock' := clock) hobj hγ hw0 hb (hm.modify j (fun e => (e.1, e.2.1, evO E T z)) (fun e => { e with val := a.eval z }) (fun x m hx hm2 => ⟨(hm.rd j x m hx hm2).1, (hm.rd j x m hx hm2).2.1, h3⟩))
  refine ⟨undef, _, .inr ⟨?_, rfl⟩, .unk, c, _, hk.step r m, m, .unk _, hK⟩
  unfold execOp
  rw [ho]
  simp only [hv, e2, Instr.entryStore, Sem.run_bind, Result.andThen_ok, MapKept.run_getObj_map hb, Sem.run_pure, asInt, asIntOf, hfi, run_setObj_map _ hb]
theorem e_makeMap {E : Env} {o : Oper} {T : Nat → TV} {S : TS} {t : TypeId} (ho : o.op = .makeMap t none) {K : TV → TS → Prop} (hK : K (.mp S.n) (S.push (.map [] 0))) : ESem E o T S K := by
  refine .of_run fun w0 c w a hk hop => ?_
  obtain ⟨c', r, m, g, _⟩ := hk.rel.alloc (.map #[] 0) (.map [] 0) (0, 0) (fun _ => False) (fun j hj => hj.elim) (fun c' m g hA =>
    ⟨_, _, g, hk.rel.le, #[], heap_alloc_new w _, rfl, fun j x m h => by simp at h⟩)
  refine ⟨_, _, .inl ?_, _, c', _, hk.step r m, m, .mp _ _ _ g, hK⟩
  unfold execOp
  rw [ho]
  simp only [Instr.makeMap, Option.map_none, Sem.run_bind, run_newObj, Result.andThen_ok, Sem.run_pure]
  rfl
theorem RdM.erase {c : Cx} {w : World} {es : Ents} {ents : Array MapEntry} (h : RdM c w es ents) (j : Nat) : RdM c w (es.eraseIdx j) (ents.eraseIdxIfInBounds j) := by
  have hl : (ents.eraseIdxIfInBounds j).toList = ents.toList.eraseIdx j := by
    unfold Array.eraseIdxIfInBounds
    split
    · simp
    · rename_i hj
      rw [List.eraseIdx_of_length_le (by rw [Array.length_toList]; omega)]
  refine ⟨?_, fun i x m h1 h2 => ?_⟩
  · rw [← Array.length_toList, hl, List.length_eraseIdx, List.length_eraseIdx, Array.length_toList, h.size]
  · rw [← Array.getElem?_toList, hl, List.getElem?_eraseIdx] at h2
    rw [List.getElem?_eraseIdx] at h1
    split at h1
    · rename_i hi
      rw [if_pos hi] at h2
      exact h.rd i x m h1 (by simpa using h2)
    · rename_i hi
      rw [if_neg hi] at h2
      exact h.rd (i + 1) x m h1 (by simpa using h2)
theorem e_delete {E : Env} {o : Oper} {T : Nat → TV} {S : TS} {x y : Operand} {t t2 : TypeId} (ho : o.op = .call { callee := .builtin .delete, args := #[x, y], argTypes := #[t, t2] }) {i ik : TI} {kt et id clock : Nat} {es : Ents} {k : Value} {K : TV → TS → Prop}
    (ht : tiOf E.P t = some i) (hd : i.desc = .map kt et) (hik : tiOf E.P kt = some ik) (hx : evO E T x = .mp id) (hy : evO E T y = .lit k) (hobj : S.objs id = .map es clock)
    (hkk : isKeyB ik.desc k = true) (hks : keysOk ik.desc es = true) (hK : K (.tup []) (S.set id (.map (match findT k es with | some j => es.eraseIdx j | none => es) clock))) : ESem E o T S K := by
  refine .of_run fun w0 c w a hk hop => ?_
  rw [ho] at hop
  have h1 := hop x (by simp [Op.operands, Call.operands])
  have h2 := hop y (by simp [Op.operands, Call.operands])
  rw [hx] at h1; rw [hy] at h2
  have e2 := h2.lit_inv
  obtain ⟨b, e, ents, hv, hγ, hw0, hb, hm⟩ := map_get hk h1 hobj
  have hu : E.P.underlying t = some (.map kt et) := by rw [(tyIs ht).und, hd]
  have hf := findNow_first (isKeyB_ok hkk) ents.toList 0 (hm.keys hks)
  rw [hm.find k] at hf
  have hrun : ∃ w', (Builtin.delete_ #[t, t2] o.type #[.map (some b), k]).run E.P w = .ok (.tuple #[]) w' ∧ Rel w0 c (S.set id (.map (match findT k es with | some j => es.eraseIdx j | none => es) clock)) w' ∧ Mono c w c w' := by
    cases hfd : findT k es with
    | none =>
      rw [hfd] at hf
      obtain ⟨r, m⟩ := hk.rel.setMap (clock' := clock) hobj hγ hw0 hb hm
      refine ⟨_, ?_, r, m⟩
      simp only [Builtin.delete_, List.getElem?_toArray, List.getElem?_cons_zero, List.getElem?_cons_succ, Sem.run_bind, run_underlying hu, Result.andThen_ok, MapKept.run_getObj_map hb, Sem.run_pure, run_checkKey (tyIs hik).und (isKeyB_ok hkk), run_findKey (tyIs hik).und hf, run_setObj_map _ hb]
    | some j =>
      rw [hfd] at hf
      obtain ⟨r, m⟩ := hk.rel.setMap (clock' := clock) hobj hγ hw0 hb (hm.erase j)
      refine ⟨_, ?_, r, m⟩
      simp only [Builtin.delete_, List.getElem?_toArray, List.getElem?_cons_zero, List.getElem?_cons_succ, Sem.run_bind, run_underlying hu, Result.andThen_ok, MapKept.run_getObj_map hb, Sem.run_pure, run_checkKey (tyIs hik).und (isKeyB_ok hkk), run_findKey (tyIs hik).und hf, run_setObj_map _ hb, Nat.zero_add]
  obtain ⟨w', k1, k2, k3⟩ := hrun
  refine ⟨_, w', .inl ?_, _, c, _, hk.step k2 k3, k3, .tup [] #[] rfl (fun j t v h => by simp at h), hK⟩
  unfold execOp
  rw [ho]
  simp only [resolve, Sem.run_bind, Sem.run_pure, Result.andThen_ok, invoke, builtin, List.map_toArray, List.map_cons, List.map_nil, hv, e2, k1]
theorem e_deleteNil {E : Env} {o : Oper} {T : Nat → TV} {S : TS} {x y : Operand} {t t2 : TypeId} (ho : o.op = .call { callee := .builtin .delete, args := #[x, y], argTypes := #[t, t2] }) {i ik : TI} {kt et : Nat} {k : Value} {K : TV → TS → Prop}
    (ht : tiOf E.P t = some i) (hd : i.desc = .map kt et) (hik : tiOf E.P kt = some ik) (hx : evO E T x = .lit (.map none)) (hy : evO E T y = .lit k) (hkk : isKeyB ik.desc k = true) (hK : K (.tup []) S) : ESem E o T S K := by
  refine .of_run fun w0 c w a hk hop => ?_
  rw [ho] at hop
  have h1 := hop x (by simp [Op.operands, Call.operands])
  have h2 := hop y (by simp [Op.operands, Call.operands])
  rw [hx] at h1; rw [hy] at h2
  have e1 := h1.lit_inv
  have e2 := h2.lit_inv
  have hu : E.P.underlying t = some (.map kt et) := by rw [(tyIs ht).und, hd]
  refine ⟨.tuple #[], w, .inl ?_, _, c, S, hk, Mono.refl c w, .tup [] #[] rfl (fun j t v h => by simp at h), hK⟩
  unfold execOp
  rw [ho]
  simp only [resolve, Sem.run_bind, Sem.run_pure, Result.andThen_ok, invoke, builtin, List.map_toArray, List.map_cons, List.map_nil, e1, e2, Builtin.delete_, List.getElem?_toArray, List.getElem?_cons_zero, List.getElem?_cons_succ, run_underlying hu, run_checkKey (tyIs hik).und (isKeyB_ok hkk)]
/-! ### rounds over a map -/
theorem e_range {E : Env} {o : Oper} {T : Nat → TV} {S : TS} {t : TypeId} {x : Operand} (ho : o.op = .range t x) {i : TI} {kt et id clock : Nat} {es : Ents} {K : TV → TS → Prop}
    (ht : tiOf E.P t = some i) (hd : i.desc = .map kt et) (hx : evO E T x = .mp id) (hobj : S.objs id = .map es clock) (hK : K (.ptr S.n 0) (S.push (.iter (some id) clock [] clock))) : ESem E o T S K := by
  refine .of_run fun w0 c w a hk hop => ?_
  rw [ho] at hop
  have h1 := hop x (by simp [Op.operands])
  rw [hx] at h1
  obtain ⟨b, e, ents, hv, hγ, hw0, hb, hm⟩ := map_get hk h1 hobj
  have hu : E.P.underlying t = some (.map kt et) := by rw [(tyIs ht).und, hd]
  obtain ⟨c', r, m, g, _⟩ := hk.rel.alloc (.mapIter (some b) clock #[] clock) (.iter (some id) clock [] clock) (0, 0) (fun _ => False) (fun j hj => hj.elim) (fun c' m g hA =>
    ⟨_, _, some b, g, rfl, hk.rel.le, heap_alloc_new w _, b, e, rfl, m.γ _ _ hγ⟩)
  refine ⟨_, _, .inl ?_, _, c', _, hk.step r m, m, .ptr _ 0 _ _ g, hK⟩
  unfold execOp
  rw [ho]
  simp only [hv, Instr.range, Sem.run_bind, run_underlying hu, Result.andThen_ok, MapKept.run_getObj_map hb, Sem.run_pure, run_newObj]
  rfl
theorem e_rangeNil {E : Env} {o : Oper} {T : Nat → TV} {S : TS} {t : TypeId} {x : Operand} (ho : o.op = .range t x) {i : TI} {kt et : Nat} {K : TV → TS → Prop}
    (ht : tiOf E.P t = some i) (hd : i.desc = .map kt et) (hx : evO E T x = .lit (.map none)) (hK : K (.ptr S.n 0) (S.push (.iter none 0 [] 0))) : ESem E o T S K := by
  refine .of_run fun w0 c w a hk hop => ?_
  rw [ho] at hop
  have h1 := hop x (by simp [Op.operands])
  rw [hx] at h1
  have e1 := h1.lit_inv
  have hu : E.P.underlying t = some (.map kt et) := by rw [(tyIs ht).und, hd]
  obtain ⟨c', r, m, g, _⟩ := hk.rel.alloc (.mapIter none 0 #[] 0) (.iter none 0 [] 0) (0, 0) (fun _ => False) (fun j hj => hj.elim) (fun c' m g hA =>
    ⟨_, _, none, g, rfl, hk.rel.le, heap_alloc_new w _, rfl⟩)
  refine ⟨_, _, .inl ?_, _, c', _, hk.step r m, m, .ptr _ 0 _ _ g, hK⟩
  unfold execOp
  rw [ho]
  simp only [e1, Instr.range, Sem.run_bind, run_underlying hu, Result.andThen_ok, Sem.run_pure, run_newObj]
  rfl
def IterAt (c : Cx) (r : Option Nat) : Option Nat → Prop
  | none => r = none
  | some k => ∃ b2 e2, r = some b2 ∧ c.γ k = some (b2, e2)
theorem iter_get {E : Env} {w0 : World} {c : Cx} {S : TS} {w : World} (hk : Ok E w0 c S w) {it : Nat} {m : Option Nat} {since last : Nat} {seen : List Nat} {v : Value} (hr : RdT c w (.ptr it 0) v) (hobj : S.objs it = .iter m since seen last) :
    ∃ b e r, v = .pointer (some ⟨b, 0, none⟩) ∧ c.γ it = some (b, e) ∧ e.1 = 0 ∧ w0.heap.size ≤ b ∧ w.heap[b]? = some (.mapIter r since seen.toArray last) ∧ IterAt c r m := by
  cases hr with
  | ptr _ _ b e hγ =>
    have hob := hk.rel.obj it (hk.rel.dom _ _ hγ)
    rw [hobj] at hob
    obtain ⟨b', e', r, g1, g0, g2, g3, g4⟩ := hob
    rw [hγ] at g1
    injection g1 with g1; injection g1 with g1 g1'; subst g1 g1'
    exact ⟨b, e, r, by simp [g0], hγ, g0, g2, g3, by cases m <;> exact g4⟩
theorem e_nextNil {E : Env} {o : Oper} {T : Nat → TV} {S : TS} {x : Operand} (ho : o.op = .next x false) {it since last : Nat} {seen : List Nat} {K : TV → TS → Prop}
    (hx : evO E T x = .ptr it 0) (hobj : S.objs it = .iter none since seen last) (hK : K (.tup [.lit (.bool false)]) S) : ESem E o T S K := by
  refine .of_run fun w0 c w a hk hop => ?_
  rw [ho] at hop
  have h1 := hop x (by simp [Op.operands])
  rw [hx] at h1
  obtain ⟨b, e, r, hv, _, _, _, hb, hr⟩ := iter_get hk h1 hobj
  have hr : r = none := hr
  subst hr
  refine ⟨.tuple #[.bool false], w, .inl ?_, _, c, S, hk, Mono.refl c w, ?_, hK⟩
  · unfold execOp
    rw [ho]
    simp [hv, Instr.next, getObj, Sem.run, hb]
  · refine .tup _ _ rfl fun j t v h3 h4 => ?_
    match j with
    | 0 => simp at h3 h4; subst h3; subst h4; exact .lit _
    | j + 1 => simp at h3
/-- The next entry of a map that hasn't been changed since its rounds began. -/
theorem e_next {E : Env} {o : Oper} {T : Nat → TV} {S : TS} {x : Operand} (ho : o.op = .next x false) {it id clock : Nat} {seen : List Nat} {es : Ents} {K : TV → TS → Prop}
    (hx : evO E T x = .ptr it 0) (hobj : S.objs it = .iter (some id) clock seen clock) (hmap : S.objs id = .map es clock) (hwf : ∀ e ∈ es, e.2.1 < clock)
    (hmore : ∀ (j : Nat) e, es[j]? = some e → e.2.1 ∉ seen → K (.tup [.lit (.bool true), .lit e.1, e.2.2]) (S.set it (.iter (some id) clock (seen ++ [e.2.1]) clock)))
    (hover : (∀ e ∈ es, e.2.1 ∈ seen) → K (.tup [.lit (.bool false)]) S) : ESem E o T S K := by
  refine .of_run fun w0 c w a hk hop => ?_
  rw [ho] at hop
  have h1 := hop x (by simp [Op.operands])
  rw [hx] at h1
  obtain ⟨b, e, r, hv, hγ, he0, hw0, hb, b2, e2, hr, hγ2⟩ := iter_get hk h1 hobj
  subst hr
  obtain ⟨b3, e3, ents, hv3, hγ3, _, hb2, hm⟩ := map_get hk (.mp id b2 e2 hγ2) hmap
  rw [hγ2] at hγ3
  injection hγ3 with hγ3; injection hγ3 with q1 q2; subst q1 q2
  have hborn : ∀ m ∈ ents.toList, m.born < clock := by
    intro m hmm
    obtain ⟨j, hj⟩ := List.mem_iff_getElem?.1 hmm
    rw [Array.getElem?_toList] at hj
    have hlt : j < es.length := by rw [← hm.size]; exact (Array.getElem?_eq_some_iff.1 hj).1
    have h2 : es[j]? = some es[j] := List.getElem?_eq_getElem hlt
    rw [(hm.rd j _ _ h2 hj).2.1]
    exact hwf _ (List.getElem_mem hlt)
  have hneq : b2 ≠ b := by
    intro hh; subst hh; rw [hb] at hb2; cases hb2
  -- what is left
  generalize hleft : ents.filter (fun e => !seen.toArray.contains e.born) = left
  have hold : left.filter (fun e => decide (e.born < clock)) = left := by
    rw [← hleft, Array.filter_eq_self]
    intro m hmm
    have := (Array.mem_filter.1 hmm).1
    exact decide_eq_true (hborn m (by simpa using this))
  have hnew : left.filter (fun e => decide (e.born ≥ clock)) = #[] := by
    rw [Array.filter_eq_empty_iff]
    intro m hmm
    have h3 : m ∈ left := hmm
    rw [← hleft] at h3
    have := hborn m (by simpa using (Array.mem_filter.1 h3).1)
    simp; omega
  have hguard : (!seen.toArray.isEmpty && !ents.isEmpty && ents.all (fun e => decide (e.born ≥ clock))) = false := by
    by_cases hem : ents.isEmpty = true
    · simp [hem]
    · have h3 : ents.all (fun e => decide (e.born ≥ clock)) = false := by
        rw [Array.all_eq_false]
        have h0 : 0 < ents.size := by
          rcases Nat.eq_zero_or_pos ents.size with h | h
          · exact absurd (by simpa using Array.eq_empty_of_size_eq_zero h) hem
          · exact h
        refine ⟨0, h0, ?_⟩
        have := hborn ents[0] (by simp)
        simp; omega
      rw [h3]; simp
  have hnext : ∀ L, L = (if left.isEmpty then #[none] else left.map some) → (Instr.next (.pointer (some ⟨b, 0, none⟩)) false o.type).run E.P w =
      ((choose (.mapNext L.size)).run E.P w).andThen fun n w1 => (match L[n]? with
        | some (some e) => (do setObj b (.mapIter (some b2) clock (seen.toArray.push e.born) clock); pure (.tuple #[.bool true, e.key, e.val]) : Sem Value)
        | some none => pure (.tuple #[.bool false])
        | none => stuck "Next: no such candidate").run E.P w1 := by
    intro L hL
    have hcand : ((if left.isEmpty then #[none] else #[]) ++ (left ++ (#[] : Array MapEntry)).map some : Array (Option MapEntry)) = L := by
      rw [hL]
      by_cases hle : left.isEmpty = true
      · rw [if_pos hle, if_pos hle]
        have : left = #[] := by simpa using hle
        subst this; simp
      · rw [if_neg hle, if_neg hle]; simp
    simp only [Instr.next, Sem.run_bind, getObj, Sem.run, hb, hb2, Result.andThen_ok]
    rw [hguard]
    simp only [Bool.false_eq_true, if_false, hleft, hold, hnew, hcand, Sem.run_bind]
    rfl
  have hred : ∀ v w', (Instr.next (a.eval x) false o.type).run E.P w = .ok v w' → (execOp a.eval o).run E.P w = .ok (.value v) w' := by
    intro v w' h
    unfold execOp
    rw [ho]
    simp only [Sem.run_bind, h, Result.andThen_ok, Sem.run_pure]
  rw [hv] at hred
  by_cases hle : left.isEmpty = true
  · have hl0 : left = #[] := by simpa using hle
    have hall : ∀ e ∈ es, e.2.1 ∈ seen := by
      intro e he
      obtain ⟨j, hj⟩ := List.mem_iff_getElem?.1 he
      have hlt : j < es.length := (List.getElem?_eq_some_iff.1 hj).1
      have hej : ents[j]? = some (ents[j]'(by rw [hm.size]; exact hlt)) := Array.getElem?_eq_getElem _
      rw [← (hm.rd j _ _ hj hej).2.1]
      rw [hl0, Array.filter_eq_empty_iff] at hleft
      have := hleft _ (Array.getElem_mem (by rw [hm.size]; exact hlt) : ents[j]'(by rw [hm.size]; exact hlt) ∈ ents)
      simpa using this
    refine ⟨.tuple #[.bool false], w, .inl (hred _ _ ?_), _, c, S, hk, Mono.refl c w, ?_, hover hall⟩
    · rw [hnext _ rfl, hl0]
      simp [run_choose, Question.forced]
    · refine .tup _ _ rfl fun j t v h3 h4 => ?_
      match j with
      | 0 => simp at h3 h4; subst h3; subst h4; exact .lit _
      | j + 1 => simp at h3
  · have hpos : 0 < left.size := by
      rcases Nat.eq_zero_or_pos left.size with h | h
      · exact absurd (by simpa using Array.eq_empty_of_size_eq_zero h) hle
      · exact h
    have hch : ∃ n w1, n < left.size ∧ (w1 = w ∨ w1 = w.drew) ∧ (choose (.mapNext left.size)).run E.P w = .ok n w1 := by
      rw [run_choose]
      split
      · exact ⟨0, w, hpos, .inl rfl, rfl⟩
      · exact ⟨_, w.drew, Nat.mod_lt _ hpos, .inr rfl, rfl⟩
    obtain ⟨n, w1, hn, hw1, hrun⟩ := hch
    obtain ⟨x0, hx0⟩ : ∃ x, left[n]? = some x := ⟨left[n], by simp [hn]⟩
    have hmem : x0 ∈ left := Array.mem_of_getElem? hx0
    have hmem2 := hmem
    rw [← hleft] at hmem2
    obtain ⟨hin, hns⟩ := Array.mem_filter.1 hmem2
    obtain ⟨j, hj⟩ := List.mem_iff_getElem?.1 (show x0 ∈ ents.toList by simpa using hin)
    rw [Array.getElem?_toList] at hj
    have hlt : j < es.length := by rw [← hm.size]; exact (Array.getElem?_eq_some_iff.1 hj).1
    have hej : es[j]? = some es[j] := List.getElem?_eq_getElem hlt
    obtain ⟨p1, p2, p3⟩ := hm.rd j _ _ hej hj
    have hns' : (es[j]).2.1 ∉ seen := by
      rw [← p2]; simpa using hns
    have hr1 : Rel w0 c S w1 ∧ Mono c w c w1 := by
      rcases hw1 with rfl | rfl
      · exact ⟨hk.rel, Mono.refl _ _⟩
      · exact hk.rel.drew
    have hh1 : w1.heap = w.heap := by rcases hw1 with rfl | rfl <;> rfl
    have hb1 : w1.heap[b]? = some (.mapIter (some b2) clock seen.toArray clock) := by rw [hh1]; exact hb
    obtain ⟨g1, g2⟩ := heap_set (o' := .mapIter (some b2) clock (seen.toArray.push x0.born) clock) hb1
    have hit := hk.rel.dom _ _ hγ
    have hnA : ∀ j, ¬ c.A b j := by
      intro q ha
      obtain ⟨v, hv⟩ := hk.rel.cell b q ha
      simp [World.cell?, hb] at hv
    obtain ⟨r2, m2⟩ := hr1.1.change (w' := { w1 with heap := w1.heap.setIfInBounds b (.mapIter (some b2) clock (seen.toArray.push x0.born) clock) }) it (.iter (some id) clock (seen ++ [(es[j]).2.1]) clock) b e hit hγ (by rw [hobj]; rfl) hw0 (by simp) ⟨rfl, rfl, rfl⟩ (fun k hk => g2 k hk) (fun q ha => absurd ha (hnA q))
      (fun m => ⟨b, e, some b2, hγ, he0, hw0, by rw [g1, p2]; simp, b2, e2, rfl, hγ2⟩)
    refine ⟨.tuple #[.bool true, x0.key, x0.val], _, .inl (hred _ _ ?_), _, c, _, hk.step r2 (hr1.2.trans m2), hr1.2.trans m2, ?_, hmore j _ hej hns'⟩
    · rw [hnext _ rfl, if_neg hle]
      have hsz : (left.map some).size = left.size := by simp
      rw [hsz, hrun]
      have hget : (left.map some)[n]? = some (some x0) := by simp [hx0]
      simp only [Result.andThen_ok, hget, Sem.run_bind]
      have hset : (setObj b (.mapIter (some b2) clock (seen.toArray.push x0.born) clock)).run E.P w1 = .ok () { w1 with heap := w1.heap.setIfInBounds b (.mapIter (some b2) clock (seen.toArray.push x0.born) clock) } := by
        simp [setObj, Sem.run, hb1]
      rw [hset]
      simp only [Result.andThen_ok, Sem.run_pure]
    · refine .tup _ _ rfl fun q t v h3 h4 => ?_
      match q with
      | 0 => simp at h3 h4; subst h3; subst h4; exact .lit _
      | 1 => simp at h3 h4; subst h3; subst h4; rw [p1]; exact .lit _
      | 2 => simp at h3 h4; subst h3; subst h4; exact p3.step (hr1.2.trans m2)
      | q + 3 => simp at h3
/-- The entry at which an iterator stands. -/
theorem e_entry {E : Env} {o : Oper} {T : Nat → TV} {S : TS} {x : Operand} (ho : o.op = .entry x) {it id clock since st : Nat} {seen : List Nat} {es : Ents} {e : Value × Nat × TV} {K : TV → TS → Prop}
    (hx : evO E T x = .ptr it 0) (hobj : S.objs it = .iter (some id) since seen clock) (hmap : S.objs id = .map es clock) (hs : seen.getLast? = some st) (hf : es.find? (fun e => e.2.1 == st) = some e)
    (hK : K (.tup [.lit e.1, e.2.2]) S) : ESem E o T S K := by
  refine .of_run fun w0 c w a hk hop => ?_
  rw [ho] at hop
  have h1 := hop x (by simp [Op.operands])
  rw [hx] at h1
  obtain ⟨b, e1, r, hv, hγ, he0, hw0, hb, b2, e2, hr, hγ2⟩ := iter_get hk h1 hobj
  subst hr
  obtain ⟨b3, e3, ents, hv3, hγ3, _, hb2, hm⟩ := map_get hk (.mp id b2 e2 hγ2) hmap
  rw [hγ2] at hγ3
  injection hγ3 with hγ3; injection hγ3 with q1 q2; subst q1 q2
  obtain ⟨m, hmf, hmr⟩ : ∃ m, ents.find? (fun m => m.born == st) = some m ∧ m.key = e.1 ∧ RdT c w e.2.2 m.val := by
    have key : ∀ (l1 : Ents) (l2 : List MapEntry), l2.length = l1.length → (∀ (j : Nat) x m, l1[j]? = some x → l2[j]? = some m → m.key = x.1 ∧ m.born = x.2.1 ∧ RdT c w x.2.2 m.val) → l1.find? (fun e => e.2.1 == st) = some e →
        ∃ m, l2.find? (fun m => m.born == st) = some m ∧ m.key = e.1 ∧ RdT c w e.2.2 m.val := by
      intro l1
      induction l1 with
      | nil => intro l2 _ _ h; cases h
      | cons y l1 ih =>
        intro l2 hl hr h
        cases l2 with
        | nil => simp at hl
        | cons m l2 =>
          obtain ⟨k1, k2, k3⟩ := hr 0 y m rfl rfl
          rw [List.find?_cons] at h
          rw [List.find?_cons, k2]
          cases hc : (y.2.1 == st) with
          | true => rw [hc] at h; injection h with h; subst h; exact ⟨m, rfl, k1, k3⟩
          | false => rw [hc] at h; exact ih l2 (by simpa using hl) (fun j x m' h1 h2 => hr (j + 1) x m' (by simpa using h1) (by simpa using h2)) h
    obtain ⟨m, g1, g2⟩ := key es ents.toList (by simp [hm.size]) (fun j x m h1 h2 => hm.rd j x m h1 (by simpa using h2)) hf
    exact ⟨m, by rw [← Array.find?_toList]; exact g1, g2⟩
  refine ⟨.tuple #[m.key, m.val], w, .inl ?_, _, c, S, hk, Mono.refl c w, ?_, hK⟩
  · have hback : seen.toArray.back? = some st := by rw [← hs]; simp
    unfold execOp
    rw [ho]
    simp only [Instr.entry, hv, Sem.run_bind, getObj, Sem.run, hb, hb2, Result.andThen_ok, hback, hmf, bne_self_eq_false, Bool.false_eq_true, if_false, Sem.run_pure]
  · refine .tup _ _ rfl fun j t v h3 h4 => ?_
    match j with
    | 0 => simp at h3 h4; subst h3; subst h4; rw [hmr.1]; exact .lit _
    | 1 => simp at h3 h4; subst h3; subst h4; exact hmr.2
end Go.Proofs.YtlljknmojafkoaaGreatDoor.TL
namespace Go.Proofs.YtlljknmojafkoaaGreatDoor.TL
open Go.RowKit
def nilB (op : BinOp) (b : Bool) : Bool := match op with
  | .eql => b
  | _ => !b
def isEq (op : BinOp) : Bool := match op with
  | .eql | .neq => true
  | _ => false
/-- Two pointers, or two maps, compared: where the values tell it. -/
def ptrEq : Bool → TV → TV → Option Bool
  | false, .lit (.pointer none), .lit (.pointer none) => some true
  | true, .lit (.map none), .lit (.map none) => some true
  | false, .ptr _ _, .lit (.pointer none) => some false
  | false, .eptr _ _, .lit (.pointer none) => some false
  | true, .mp _, .lit (.map none) => some false
  | false, .ptr i o, .ptr j p => if i = j ∧ o = p then some true else none
  | _, _, _ => none
def ptrTy (P : Program) (ty : TypeId) : Option Bool :=
  match tiOf P ty with
  | some { desc := .pointer e, .. } => if (P.info? e).isSome && P.pointee ty == e then some false else none
  | some { desc := .map _ _, .. } => some true
  | _ => none
theorem binOp_go {E : Env} {o : Oper} {op : BinOp} {ty yt : TypeId} {x y : Operand} (ho : o.op = .binOp op ty x y yt) {act : Act} {w : World} {r a b : Value} (ha : act.eval x = a) (hb : act.eval y = b)
    (hg : (eqGuard op ty x y a b).run E.P w = .ok () w) (h : (binOp op ty a b).run E.P w = .ok r w) : (execOp act.eval o).run E.P w = .ok (.value r) w := by
  unfold execOp
  rw [ho]
  simp only [ha, hb, Sem.run_bind, hg, Result.andThen_ok, h, Sem.run_pure]
theorem ptrEq_ok {c : Cx} {w : World} {m r : Bool} {u v : TV} {a b : Value} (h : ptrEq m u v = some r) (h1 : RdT c w u a) (h2 : RdT c w v b) :
    (m = false ∧ ∃ p q, a = .pointer p ∧ b = .pointer q ∧ ((q = none ∧ r = p.isNone) ∨ ∃ x, p = some x ∧ q = some x ∧ r = true)) ∨ (m = true ∧ ∃ p, a = .map p ∧ b = .map none ∧ r = p.isNone) := by
  unfold ptrEq at h
  split at h
  · cases h; have e1 := h1.lit_inv; have e2 := h2.lit_inv; exact .inl ⟨rfl, none, none, e1, e2, .inl ⟨rfl, rfl⟩⟩
  · cases h; have e1 := h1.lit_inv; have e2 := h2.lit_inv; exact .inr ⟨rfl, none, e1, e2, rfl⟩
  · cases h; have e2 := h2.lit_inv; cases h1; exact .inl ⟨rfl, _, _, rfl, e2, .inl ⟨rfl, rfl⟩⟩
  · cases h; have e2 := h2.lit_inv; cases h1; exact .inl ⟨rfl, _, _, rfl, e2, .inl ⟨rfl, rfl⟩⟩
  · cases h; have e2 := h2.lit_inv; cases h1; exact .inr ⟨rfl, _, rfl, e2, rfl⟩
  · split at h
    · rename_i hij
      obtain ⟨rfl, rfl⟩ := hij
      cases h
      cases h1 with
      | ptr _ _ b e hγ =>
        cases h2 with
        | ptr _ _ b2 e2 hγ2 =>
          rw [hγ] at hγ2
          cases hγ2
          exact .inl ⟨rfl, _, _, rfl, rfl, .inr ⟨_, rfl, rfl, rfl⟩⟩
    · cases h
  · cases h
theorem q_ptrEq {E : Env} {o : Oper} {T : Nat → TV} {S : TS} {op : BinOp} {ty yt : TypeId} {x y : Operand} (ho : o.op = .binOp op ty x y yt) {m r : Bool}
    (hop : isEq op = true) (hty : ptrTy E.P ty = some m) (h : ptrEq m (evO E T x) (evO E T y) = some r) : QSem E o T S (.lit (.bool (nilB op r))) := by
  intro w0 c w act hk hopn
  rw [ho] at hopn
  have h1 := hopn x (by simp [Op.operands])
  have h2 := hopn y (by simp [Op.operands])
  unfold ptrTy at hty
  rcases ptrEq_ok h h1 h2 with ⟨rfl, p, q, e1, e2, h3⟩ | ⟨rfl, p, e1, e2, rfl⟩
  · split at hty
    · rename_i e sz b z hi
      have ht := (tyIs hi).und
      split at hty
      · rename_i hc
        simp only [Bool.and_eq_true, beq_iff_eq] at hc
        obtain ⟨j, hj⟩ := Option.isSome_iff_exists.1 hc.1
        have ht' : E.P.underlying ty = some (.pointer (E.P.pointee ty)) := by rw [hc.2]; exact ht
        refine ⟨_, binOp_go ho e1 e2 (by cases op <;> rfl) ?_, .lit _⟩
        rcases h3 with ⟨rfl, rfl⟩ | ⟨a, rfl, rfl, rfl⟩
        · cases op <;> first
            | exact absurd hop (by decide)
            | exact run_eql_pointer_nil w ty p ht'
            | exact run_neq_pointer_nil w ty p ht'
        · cases op <;> first
            | exact absurd hop (by decide)
            | exact run_eql_ptr_same w a ht hj
            | exact Lib.run_neq_ptr_same w a ht hj
      · cases hty
    · cases hty
    · cases hty
  · split at hty
    · split at hty <;> cases hty
    · rename_i k e sz b z hi
      have ht := (tyIs hi).und
      refine ⟨_, binOp_go ho e1 e2 (by cases op <;> rfl) ?_, .lit _⟩
      cases op <;> first
        | exact absurd hop (by decide)
        | exact run_eql_map_nil w ty k e p ht
        | exact run_neq_map_nil w ty k e p ht
    · cases hty
/-- A slice compared with nil: one that has elements isn't nil; of an empty one nobody knows. -/
theorem e_nilSl {E : Env} {o : Oper} {T : Nat → TV} {S : TS} {op : BinOp} {ty yt e : TypeId} {x : Operand} (ho : o.op = .binOp op ty x (.const (.slice none 0 0)) yt) {i : TI} {K : TV → TS → Prop} {g : Tag} {s : Nat} {xs : List D}
    (hop : isEq op = true) (ht : tiOf E.P ty = some i) (hd : i.desc = .slice e) (hx : evO E T x = .sl g s xs) (h0 : xs = [] → K (.lit (.bool (nilB op true))) S) (h1 : K (.lit (.bool (nilB op false))) S) : ESem E o T S K := by
  refine .of_run fun w0 c w a hk hopn => ?_
  rw [ho] at hopn
  have hr := hopn x (by simp [Op.operands])
  rw [hx] at hr
  have hu : E.P.underlying ty = some (.slice e) := by rw [(tyIs ht).und, hd]
  generalize hv : a.eval x = v at hr
  cases hr with
  | sl _ _ _ _ h2 _ =>
    have hform : ∃ ad n cap, v = .slice ad n cap ∧ (ad = none → xs = []) := by
      cases h2 with
      | nil _ ad cap => exact ⟨ad, 0, cap, rfl, fun _ => rfl⟩
      | sl _ _ b o n cap hn hc _ _ => exact ⟨_, n, cap, rfl, fun h => by cases h⟩
    obtain ⟨ad, n, cap, rfl, hnil⟩ := hform
    refine ⟨.bool (nilB op ad.isNone), w, .inl (binOp_go ho hv rfl (by cases op <;> rfl) ?_), _, c, S, hk, Mono.refl c w, .lit _, ?_⟩
    · cases op <;> first
        | exact absurd hop (by decide)
        | exact Lib.run_eql_slice_nil w ty e ad n cap 0 0 hu
        | exact run_neq_slice_nil_any w ty e ad n cap 0 0 hu
    · cases ad with
      | none => exact h0 (hnil rfl)
      | some a => exact h1
theorem e_nilVs {E : Env} {o : Oper} {T : Nat → TV} {S : TS} {op : BinOp} {ty yt e : TypeId} {x : Operand} (ho : o.op = .binOp op ty x (.const (.slice none 0 0)) yt) {i : TI} {K : TV → TS → Prop} {id off s len : Nat}
    (hop : isEq op = true) (ht : tiOf E.P ty = some i) (hd : i.desc = .slice e) (hx : evO E T x = .vs id off s len) (h0 : len = 0 → K (.lit (.bool (nilB op true))) S) (h1 : K (.lit (.bool (nilB op false))) S) : ESem E o T S K := by
  refine .of_run fun w0 c w a hk hopn => ?_
  rw [ho] at hopn
  have hr := hopn x (by simp [Op.operands])
  rw [hx] at hr
  have hu : E.P.underlying ty = some (.slice e) := by rw [(tyIs ht).und, hd]
  generalize hv : a.eval x = v at hr
  have hform : ∃ ad n cap, v = .slice ad n cap ∧ (ad = none → len = 0) := by
    cases hr with
    | vs _ _ _ _ cap b z hγ hc hz => exact ⟨_, len, cap, rfl, fun h => by cases h⟩
    | vsN _ _ _ ad hn => exact ⟨ad, 0, 0, rfl, fun _ => rfl⟩
  obtain ⟨ad, n, cap, rfl, hnil⟩ := hform
  refine ⟨.bool (nilB op ad.isNone), w, .inl (binOp_go ho hv rfl (by cases op <;> rfl) ?_), _, c, S, hk, Mono.refl c w, .lit _, ?_⟩
  · cases op <;> first
      | exact absurd hop (by decide)
      | exact Lib.run_eql_slice_nil w ty e ad n cap 0 0 hu
      | exact run_neq_slice_nil_any w ty e ad n cap 0 0 hu
  · cases ad with
    | none => exact h0 (hnil rfl)
    | some a => exact h1
/-! ### what strings.Builder does with addresses -/
theorem rowAt_self {P : Program} {fits : TypeId → Bool} {e count : Nat} (h0 : P.cellsOf e ≠ 0) (hs : fits e = true) (hc : 1 ≤ count) : ∀ d, d ≠ 0 → rowAt P fits d e count 0 1 = true := by
  intro d hd
  obtain ⟨k, rfl⟩ := Nat.exists_eq_succ_of_ne_zero hd
  unfold rowAt
  simp [h0, hs, hc]
theorem liesAt_self' {P : Program} {e count : Nat} (h0 : P.cellsOf e ≠ 0) (hs : sameLayout P P.depth e e = true) (hd : P.depth ≠ 0) (hc : 1 ≤ count) : ∀ d, d ≠ 0 → liesAt P d e count 0 e 1 = true := by
  intro d hd'
  obtain ⟨k, rfl⟩ := Nat.exists_eq_succ_of_ne_zero hd'
  unfold liesAt
  rw [rowAt_self (fits := (sameLayout P P.depth · e)) h0 hs hc P.depth hd]
  rfl
theorem liesAt_self {P : Program} {e count : Nat} (h0 : P.cellsOf e ≠ 0) (hs : sameLayout P P.depth e e = true) (hd : P.depth ≠ 0) (hc : 1 ≤ count) : liesAt P P.depth e count 0 e 1 = true := liesAt_self' h0 hs hd hc _ hd
theorem cells_shape {E : Env} {w0 : World} {c : Cx} {S : TS} {w : World} (hk : Ok E w0 c S w) {id b e : Nat} {z : Nat × Nat} {cs : List TV} (hγ : c.γ id = some (b, z)) (hobj : S.objs id = .cells e cs) :
    z.1 = 0 ∧ ∃ n, cs.length ≤ n ∧ w.shape? b = some (e, n) := by
  have ho := hk.rel.obj id (hk.rel.dom _ _ hγ)
  rw [hobj] at ho
  obtain ⟨_, ⟨arr, fr, h1, h2, h3, h4⟩, _⟩ := ho.2 b z hγ
  exact ⟨h4, arr.size, by omega, by simp [World.shape?, h1]⟩
theorem q_toUnsafe {E : Env} {o : Oper} {T : Nat → TV} {S : TS} {s d t : TypeId} {x : Operand} (ho : o.op = .convert s d x) {i j k : TI} {id off e : Nat} {cs : List TV}
    (hs : tiOf E.P s = some i) (hi : i.desc = .pointer t) (hd : tiOf E.P d = some j) (hj : j.desc = .unsafePointer) (ht : tiOf E.P t = some k) (hk0 : k.size ≠ 0) (hx : evO E T x = .ptr id off) (hobj : S.objs id = .cells e cs) (hlt : off < cs.length) : QSem E o T S (.ptr id off) := by
  intro w0 c w act hk hop
  rw [ho] at hop
  have h1 := hop x (by simp [Op.operands])
  rw [hx] at h1
  generalize hv : act.eval x = v at h1
  have h1' := h1
  cases h1 with
  | ptr _ _ b z hγ =>
    obtain ⟨h0, n, hn, hsh⟩ := cells_shape hk hγ hobj
    obtain ⟨y, hy, hy2, _⟩ := (tyIs ht).inf
    refine ⟨_, ?_, h1'⟩
    unfold execOp
    rw [ho]
    simp only [hv, Sem.run_bind, Lib.run_to_unsafe w ⟨b, z.1 + off, none⟩ (by rw [(tyIs hs).und, hi]) (by rw [(tyIs hd).und, hj]) hy (by rw [hy2]; exact hk0) hsh (by show z.1 + off < n; omega), Result.andThen_ok, Sem.run_pure]
theorem q_ofUnsafe {E : Env} {o : Oper} {T : Nat → TV} {S : TS} {s d t : TypeId} {x : Operand} (ho : o.op = .convert s d x) {i j k : TI} {id : Nat} {cs : List TV}
    (hs : tiOf E.P s = some i) (hi : i.desc = .unsafePointer) (hd : tiOf E.P d = some j) (hj : j.desc = .pointer t) (ht : tiOf E.P t = some k) (hx : evO E T x = .ptr id 0) (hobj : S.objs id = .cells t cs)
    (h0 : E.P.cellsOf t ≠ 0) (hse : sameLayout E.P E.P.depth t t = true) (hdp : E.P.depth ≠ 0) (hle : E.P.cellsOf t ≤ cs.length) : QSem E o T S (.ptr id 0) := by
  intro w0 c w act hk hop
  rw [ho] at hop
  have h1 := hop x (by simp [Op.operands])
  rw [hx] at h1
  generalize hv : act.eval x = v at h1
  have h1' := h1
  cases h1 with
  | ptr _ _ b z hγ =>
    obtain ⟨hz, n, hn, hsh⟩ := cells_shape hk hγ hobj
    obtain ⟨y, hy, hy2, _⟩ := (tyIs ht).inf
    refine ⟨_, ?_, h1'⟩
    have hl : liesAt E.P E.P.depth t (n / E.P.cellsOf t) (⟨b, z.1 + 0, none⟩ : Addr).off t 1 = true := by
      show liesAt E.P E.P.depth t (n / E.P.cellsOf t) (z.1 + 0) t 1 = true
      rw [hz]
      exact liesAt_self h0 hse hdp ((Nat.one_le_div_iff (by omega)).2 (by omega))
    unfold execOp
    rw [ho]
    simp only [hv, Sem.run_bind, Lib.run_from_unsafe w ⟨b, z.1 + 0, none⟩ (by rw [(tyIs hs).und, hi]) (by rw [(tyIs hd).und, hj]) hy hsh hl, Result.andThen_ok, Sem.run_pure]
theorem q_sliceData {E : Env} {o : Oper} {T : Nat → TV} {S : TS} {x : Operand} {ty : Array TypeId} (ho : o.op = .call { callee := .builtin .unsafeSliceData, args := #[x], argTypes := ty }) {id off s len : Nat}
    (hx : evO E T x = .vs id off s len) (h0 : 0 < len) : QSem E o T S (.ptr id off) := by
  intro w0 c w act hk hop
  rw [ho] at hop
  have h1 := hop x (by simp [Op.operands, Call.operands])
  rw [hx] at h1
  generalize hv : act.eval x = v at h1
  cases h1 with
  | vs _ _ _ _ cap b z hγ hc hz =>
    refine ⟨_, ?_, .ptr id off b z hγ⟩
    unfold execOp
    rw [ho]
    simp only [resolve, Sem.run_bind, Sem.run_pure, Result.andThen_ok, invoke, builtin, List.map_toArray, List.map_cons, List.map_nil, hv, Lib.run_unsafeSliceData_row w ty o.type ⟨b, z.1 + off, none⟩ len cap (by omega)]
  | vsN => omega
/-- The bytes of a row as a string; the row may not be written any more. -/
theorem e_unsafeString {E : Env} {o : Oper} {T : Nat → TV} {S : TS} {x y : Operand} {pt it e : TypeId} (ho : o.op = .call { callee := .builtin .unsafeString, args := #[x, y], argTypes := #[pt, it] }) {i : TI} {id : Nat} {n : Int} {l : List UInt8} {K : TV → TS → Prop}
    (ht : tiOf E.P pt = some i) (hd : i.desc = .pointer e) (hc1 : E.P.cellsOf e = 1) (hx : evO E T x = .ptr id 0) (hy : evO E T y = .lit (.int .i64 n)) (hobj : S.objs id = .cells e (l.map fun b => .lit (.int .u8 b.toNat)))
    (hn : n = l.length) (h0 : l ≠ []) (h63 : l.length ≤ 9223372036854775807) (hK : K (.lit (.string ⟨l.toArray⟩)) (S.set id .gone)) : ESem E o T S K := by
  refine .of_run fun w0 c w a hk hopn => ?_
  rw [ho] at hopn
  have hr1 := hopn x (by simp [Op.operands, Call.operands])
  have hr2 := hopn y (by simp [Op.operands, Call.operands])
  rw [hx] at hr1; rw [hy] at hr2
  have e2 := hr2.lit_inv
  generalize hv : a.eval x = v at hr1
  cases hr1 with
  | ptr _ _ b z hγ =>
    obtain ⟨hz, m, hm, hsh⟩ := cells_shape hk hγ hobj
    have hid := hk.rel.dom _ _ hγ
    have hob := hk.rel.obj id hid
    rw [hobj] at hob
    obtain ⟨g2, g3, gf, g4, g5⟩ := hob.2 b z hγ
    have hcell : ∀ j x, l[j]? = some x → w.cell? ((⟨b, 0, none⟩ : Addr).add j) = some (.int .u8 x.toNat) := by
      intro j x hj
      obtain ⟨v, h1, h2⟩ := g4 j _ (by rw [List.getElem?_map, hj]; rfl)
      rw [hz, Nat.zero_add] at h1
      rw [addr_add, Nat.zero_add, h1, h2.lit_inv]
    have hrun := Lib.run_unsafeString_row (P := E.P) w pt it o.type e (by rw [(tyIs ht).und, hd]) hc1 b m hsh l h0 (by simpa using hm) h63 hcell
    obtain ⟨arr, fr, hb, _⟩ := g3
    have hne : l.length ≠ 0 := by simpa using h0
    have hfz : w.freeze ⟨b, 0, none⟩ l.length = { w with heap := w.heap.modify b fun
      | .cells c elem (lo, hi) => .cells c elem (if lo == hi then (0, 0 + l.length) else (min lo 0, max hi (0 + l.length)))
      | o => o } := by simp [World.freeze, hne]; rfl
    have hst : ∀ k, k ≠ b → (w.freeze ⟨b, 0, none⟩ l.length).heap[k]? = w.heap[k]? := by
      intro k hkb
      rw [hfz]
      simp only [Array.getElem?_modify]
      rw [if_neg (fun h => hkb h.symm)]
    obtain ⟨r, mm⟩ := hk.rel.change (w' := w.freeze ⟨b, 0, none⟩ l.length) id .gone b z hid hγ (by rw [hobj]; rfl) g2 (by rw [hfz]; simp) (by rw [hfz]; exact ⟨rfl, rfl, rfl⟩) hst (fun j hj => absurd hj (g5 j)) (fun _ => trivial)
    refine ⟨_, _, .inl ?_, _, c, _, hk.step r mm, mm, .lit _, hK⟩
    unfold execOp
    rw [ho]
    have hz' : z.1 + 0 = 0 := by omega
    simp only [resolve, Sem.run_bind, Sem.run_pure, Result.andThen_ok, invoke, builtin, List.map_toArray, List.map_cons, List.map_nil, hv, e2, hn, hz', hrun]
theorem cells_bytes (b : ByteArray) : cellsD (bytesD b) = b.data.toList.map fun x => TV.lit (.int .u8 x.toNat) := by
  unfold bytesD
  induction b.data.toList with
  | nil => rfl
  | cons x l ih => rw [List.map_cons, List.map_cons, ← ih]; rfl
/-- A string's bytes in memory that may be written. -/
theorem e_strBytesV {E : Env} {o : Oper} {T : Nat → TV} {S : TS} {s d e : TypeId} {x : Operand} (ho : o.op = .convert s d x) {i j ie : TI} {b : ByteArray} {K : TV → TS → Prop}
    (hs : tiOf E.P s = some i) (hd : tiOf E.P d = some j) (hj : j.desc = .slice e) (he : tiOf E.P e = some ie) (hie : ie.desc = .int .u8) (hx : evO E T x = .lit (.string b)) (hb : b.size ≤ LIM)
    (hK : K (.vs S.n 0 1 b.size) (S.push (.cells e (cellsD (bytesD b))))) : ESem E o T S K := by
  refine .of_run fun w0 c w a hk hop => ?_
  rw [ho] at hop
  have h1 := hop x (by simp [Op.operands])
  rw [hx] at h1
  have e1 := h1.lit_inv
  have hrun := Lib.run_convert_string_bytes (P := E.P) w s d e b (tyIs hs).und (by rw [(tyIs hd).und, hj]) (by rw [(tyIs he).und, hie])
  rw [bytesWorld_eq] at hrun
  have hsz : b.size ≤ grownCap w b.size 0 e := grown_ge w b.size 0 e
  have hcs : (Lib.bytesCells w e b).size = grownCap w b.size 0 e := by
    simp [Lib.bytesCells]
    omega
  have hcell : ∀ (q : Nat) v, (b.data.toList.map fun x => Value.int .u8 x.toNat)[q]? = some v → (Lib.bytesCells w e b)[q]? = some v := by
    intro q v hq
    have hql : q < b.data.toList.length := by
      rcases Nat.lt_or_ge q b.data.toList.length with h | h
      · exact h
      · rw [List.getElem?_eq_none (by simpa using h)] at hq; cases hq
    unfold Lib.bytesCells
    rw [Array.getElem?_append_left (by simpa using hql)]
    simpa using hq
  generalize Lib.bytesCells w e b = arr at *
  have hd1 := hk.rel.drew
  have hbl : b.data.toList.length = b.size := by simp
  obtain ⟨c', r, m, gn, hA⟩ := hd1.1.alloc (.cells arr e (arr.size, arr.size + 1)) (.cells e (cellsD (bytesD b))) (0, arr.size) (fun _ => False) (fun j hj => hj.elim) (by
    intro c' m g hA
    refine ⟨fun hn => (by rw [g] at hn; cases hn), fun b2 z2 hγ2 => ?_⟩
    rw [g] at hγ2
    injection hγ2 with hγ2; injection hγ2 with q1 q2; subst q1 q2
    refine ⟨hd1.1.le, ⟨arr, _, heap_alloc_new _ _, rfl, by rw [cells_bytes, List.length_map, hbl]; simp; omega⟩, fun j hj => ?_, fun j x hx => ?_, fun j ha => (hA j).1 ha⟩
    · have hj' : j < arr.size := hj
      simp only [World.frozen?, heap_alloc_new]
      simp
      omega
    · rw [cells_bytes, List.getElem?_map] at hx
      obtain ⟨y, hy, rfl⟩ := Option.map_eq_some_iff.1 hx
      refine ⟨_, ?_, .lit (.int .u8 y.toNat)⟩
      rw [Nat.zero_add]
      unfold World.cell?
      simp only [heap_alloc_new w.drew, Option.isSome_none, Bool.false_eq_true, if_false]
      exact hcell j _ (by rw [List.getElem?_map, hy]; rfl))
  have mm : Mono c w c' (w.drew.alloc (.cells arr e (arr.size, arr.size + 1))) := hd1.2.trans m
  refine ⟨_, _, .inl ?_, _, c', _, hk.step r mm, mm, .vs S.n 0 1 b.size (grownCap w b.size 0 e) w.heap.size (0, arr.size) gn hsz (by simp; omega), hK⟩
  unfold execOp
  rw [ho]
  simp only [e1, Sem.run_bind, hrun, Result.andThen_ok, Sem.run_pure]
def unbytesC : List TV → Option (List Int)
  | [] => some []
  | .lit (.int .u8 n) :: l => (unbytesC l).map fun ns => n :: ns
  | _ => none
theorem unbytesC_ok : ∀ {l : List TV} {ns : List Int}, unbytesC l = some ns → ns.length = l.length ∧ ∀ (i : Nat) x, l[i]? = some x → x = .lit (.int .u8 (ns.getD i 0))
  | [], ns, h => by cases h; exact ⟨rfl, fun i x hx => by simp at hx⟩
  | t :: l, ns, h => by
    unfold unbytesC at h
    split at h
    · rename_i h1; cases h1
    · rename_i n l' h1
      injection h1 with h1 h2
      subst h1 h2
      obtain ⟨ms, h3, rfl⟩ := Option.map_eq_some_iff.1 h
      obtain ⟨k1, k2⟩ := unbytesC_ok h3
      refine ⟨by simp [k1], fun i x hx => ?_⟩
      cases i with
      | zero => simp at hx; rw [← hx]; rfl
      | succ i => simpa using k2 i x (by simpa using hx)
    · cases h
/-- The bytes of memory that may be written, as a string. -/
theorem q_bytesStrV {E : Env} {o : Oper} {T : Nat → TV} {S : TS} {s d e : TypeId} {x : Operand} (ho : o.op = .convert s d x) {i j ie : TI} {id off len e1 : Nat} {cs : List TV} {ns : List Int}
    (hs : tiOf E.P s = some i) (hi : i.desc = .slice e) (he : tiOf E.P e = some ie) (hie : ie.desc = .int .u8) (hd : tiOf E.P d = some j) (hj : j.desc = .string) (hx : evO E T x = .vs id off 1 len) (hobj : S.objs id = .cells e1 cs) (hle : off + len ≤ cs.length)
    (hn : unbytesC ((cs.drop off).take len) = some ns) : QSem E o T S (.lit (.string (strOfNums ns))) := by
  intro w0 c w a hk hop
  rw [ho] at hop
  have h1 := hop x (by simp [Op.operands])
  rw [hx] at h1
  generalize hv : a.eval x = v at h1
  have hu : E.P.underlying s = some (.slice e) := by rw [(tyIs hs).und, hi]
  have hue : E.P.underlying e = some (.int .u8) := by rw [(tyIs he).und, hie]
  have hud : E.P.underlying d = some .string := by rw [(tyIs hd).und, hj]
  obtain ⟨hl, hg⟩ := unbytesC_ok hn
  have hnl : ns.length = len := by rw [hl, List.length_take, List.length_drop]; omega
  suffices H : (convert s d v).run E.P w = .ok (.string (strOfNums ns)) w by
    refine ⟨_, ?_, .lit _⟩
    unfold execOp
    rw [ho]
    simp only [hv, Sem.run_bind, H, Result.andThen_ok, Sem.run_pure]
  cases h1 with
  | vs _ _ _ _ cap b z hγ hc hz =>
    have hob := hk.rel.obj id (hk.rel.dom _ _ hγ)
    rw [hobj] at hob
    obtain ⟨_, _, _, g4, _⟩ := hob.2 b z hγ
    refine run_convert_bytes_arg w s e hu hue b (z.1 + off) len cap ns (by omega) (fun q hq => ?_) d hud
    have hlt : off + q < cs.length := by omega
    obtain ⟨u, k1, k2⟩ := g4 (off + q) _ (List.getElem?_eq_getElem hlt)
    have hgq := hg q _ (by rw [List.getElem?_take_of_lt (by omega), List.getElem?_drop, List.getElem?_eq_getElem hlt])
    rw [hgq] at k2
    rw [Nat.add_assoc, k1, k2.lit_inv]
  | vsN _ _ _ ad hn0 =>
    have hns : ns = [] := List.eq_nil_of_length_eq_zero (by omega)
    subst hns
    cases ad with
    | none => exact run_convert_bytes_nil w s e hu hue 0 0 d hud
    | some p =>
      rw [run_convert_bytes_string w s d e _ 0 0 hu hue hud]
      simp [Conv.bytesToString, loadCells, loadCellsFrom, strOfNums]
      rfl
end Go.Proofs.YtlljknmojafkoaaGreatDoor.TL
