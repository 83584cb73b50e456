/-
  Appending, over tree values.
-/
import Derived.Test.YteafcknljhglkaaDoorTlH
set_option linter.unusedVariables false
set_option linter.unusedSimpArgs false
namespace Go.Proofs.YteafcknljhglkaaDoor.TL
open Go.RowKit

def toD1 : TV → Option D
  | .lit v => some (.lit v)
  | .sl _ s xs => some (.sl s xs)
  | _ => none
def toDs : List TV → Option (List D)
  | [] => some []
  | t :: ts =>
    match toD1 t, toDs ts with
    | some d, some ds => some (d :: ds)
    | _, _ => none
def toD : TV → Option D
  | .agg cs => (toDs cs).map .agg
  | t => toD1 t
/-- n elements of s cells each. -/
def chunks (ag : Bool) (s : Nat) : Nat → List TV → Option (List D)
  | 0, _ => some []
  | n + 1, cs =>
    match (if ag then (toDs (cs.take s)).map .agg else (cs.head?).bind toD1), chunks ag s n (cs.drop s) with
    | some d, some ds => some (d :: ds)
    | _, _ => none

theorem toD1_ok {c : Cx} {w : World} {t : TV} {d : D} {v : Value} (h : toD1 t = some d) (hr : RdT c w t v) : RdD c.A w d (.val v) ∧ d.isAgg = false := by
  cases t with
  | lit u => injection h with h; subst h; have := hr.lit_inv; subst this; exact ⟨.lit _, rfl⟩
  | sl g s xs => injection h with h; subst h; cases hr with | sl _ _ _ _ h _ => exact ⟨h, rfl⟩
  | _ => cases h
theorem toDs_ok : ∀ (ts : List TV) {ds : List D}, toDs ts = some ds → ds.length = ts.length ∧ ∀ (j : Nat) d, ds[j]? = some d → ∃ t, ts[j]? = some t ∧ toD1 t = some d
  | [], ds, h => by injection h with h; subst h; exact ⟨rfl, fun j d h => by simp at h⟩
  | t :: ts, ds, h => by
    simp only [toDs] at h
    split at h
    · rename_i d ds' h1 h2
      injection h with h; subst h
      obtain ⟨g1, g2⟩ := toDs_ok ts h2
      refine ⟨by simp [g1], fun j d' hd => ?_⟩
      cases j with
      | zero => simp at hd; subst hd; exact ⟨t, by simp, h1⟩
      | succ j => simp at hd; simpa using g2 j d' hd
    · cases h

theorem chunks_ok {c : Cx} {w : World} {ag : Bool} {s : Nat} (hs : ag = false → s = 1) : ∀ (n : Nat) (cs : List TV) (vs : List Value) {ds : List D}, chunks ag s n cs = some ds → n * s ≤ cs.length → vs.length = n * s →
    (∀ (j : Nat) t v, cs[j]? = some t → vs[j]? = some v → RdT c w t v ∧ v.oneCell' = true) → RdEs c.A w s ds vs ∧ ds.length = n
  | 0, cs, vs, ds, h, hl, hv, hr => by
    injection h with h; subst h
    rw [Nat.zero_mul] at hv
    rw [List.eq_nil_of_length_eq_zero hv]
    exact ⟨.nil _ _ _, rfl⟩
  | n + 1, cs, vs, ds, h, hl, hv, hr => by
    simp only [chunks] at h
    rw [Nat.succ_mul] at hl hv
    split at h
    · rename_i d ds' h1 h2
      injection h with h; subst h
      obtain ⟨g1, g2⟩ := chunks_ok (c := c) (w := w) hs n (cs.drop s) (vs.drop s) h2 (by simp; omega) (by simp; omega) (fun j t v a b => by
        rw [List.getElem?_drop] at a b; exact hr _ t v a b)
      have hd : RdE c.A w d (vs.take s) := by
        cases ag with
        | true =>
          simp only [if_true] at h1
          obtain ⟨es, he, rfl⟩ := Option.map_eq_some_iff.1 h1
          obtain ⟨k1, k2⟩ := toDs_ok _ he
          refine .agg es _ (by rw [k1]; simp; omega) ?_ ?_ ?_
          · intro j d hd
            obtain ⟨t, _, ht⟩ := k2 j d hd
            cases t <;> simp [toD1] at ht <;> (try subst ht) <;> rfl
          · intro v hvm
            obtain ⟨j, hj, rfl⟩ := List.getElem_of_mem hvm
            simp only [List.length_take] at hj
            have hjv : (vs.take s)[j]? = some ((vs.take s)[j]) := List.getElem?_eq_getElem (by simp; omega)
            rw [List.getElem?_take, if_pos (by omega)] at hjv
            exact (hr j (cs[j]'(by omega)) _ (List.getElem?_eq_getElem (by omega)) hjv).2
          · intro j d v hd hvj
            obtain ⟨t, h3, h4⟩ := k2 j d hd
            rw [List.getElem?_take] at h3 hvj
            split at h3
            · rw [if_pos (by assumption)] at hvj
              exact (toD1_ok h4 (hr j t v h3 hvj).1).1
            · cases h3
        | false =>
          have h1s := hs rfl
          subst h1s
          simp only [Bool.false_eq_true, if_false] at h1
          cases cs with
          | nil => cases h1
          | cons t ts =>
            simp only [List.head?_cons, Option.bind_some] at h1
            cases vs with
            | nil => simp at hv
            | cons v vs' =>
              obtain ⟨r1, r2⟩ := hr 0 t v (by simp) (by simp)
              obtain ⟨k1, k2⟩ := toD1_ok h1 r1
              simpa using RdE.one d v k2 r2 k1
      refine ⟨⟨by rw [hv]; simp [g2, Nat.add_mul], fun i d' hd' => ?_⟩, by simp [g2]⟩
      cases i with
      | zero => simp at hd'; subst hd'; simpa using hd
      | succ i =>
        simp at hd'
        have := g1.el i d' hd'
        rwa [List.drop_drop, Nat.add_comm s, ← Nat.succ_mul] at this
    · cases h

def bytesD (v : ByteArray) : List D := v.data.toList.map fun b => .lit (.int .u8 b.toNat)

/-- The elements that are appended, or copied from. -/
def srcD (S : TS) (ag : Bool) (size : Nat) : TV → Option (List D)
  | .sl _ s ys => if s = size then some ys else if ys.isEmpty then some [] else none
  | .lit (.string b) => if size = 1 ∧ b.size ≤ LIM then some (bytesD b) else none
  | .vs id off s len =>
    match S.objs id with
    | .cells _ cs => if s = size ∧ off + len * s ≤ cs.length ∧ (ag = false → s = 1) ∧ (cs.all flatT = true) ∧ len ≤ LIM then chunks ag s len (cs.drop off) else none
    | _ => none
  | _ => none

theorem srcD_ok {E : Env} {w0 : World} {c : Cx} {S : TS} {w : World} (hk : Ok E w0 c S w) {ag : Bool} {size : Nat} {t : TV} {v : Value} {ys : List D} (hr : RdT c w t v) (h : srcD S ag size t = some ys) :
    ∃ news : List Value, (∀ w2, (Builtin.lenOf v).run E.P w2 = .ok ys.length w2) ∧ (∀ w2 : World, w2.heap = w.heap → (Builtin.firstCells size ys.length v).run E.P w2 = .ok news.toArray w2) ∧
      RdEs c.A w size ys news ∧ ys.length ≤ LIM ∧ ¬ (∃ k n, v = .int k n) := by
  have hcell : ∀ (w2 : World) (a : Addr), w2.heap = w.heap → w2.cell? a = w.cell? a := fun w2 a h => by unfold World.cell?; rw [h]
  cases hr with
  | sl g s xs v h' _ =>
    simp only [srcD] at h
    have hform : ∃ a n cap, v = .slice a n cap ∧ xs.length = n := by
      cases h' with
      | nil _ a cap => exact ⟨a, 0, cap, rfl, rfl⟩
      | sl _ _ b o n cap hn hc _ _ => exact ⟨_, n, cap, rfl, hn⟩
    obtain ⟨a, n, cap, rfl, hn⟩ := hform
    split at h
    · rename_i hs
      injection h with h; subst h
      obtain ⟨vs, h1, h2, h3, h4⟩ := h'.cells_of
      rw [hs] at h1
      refine ⟨vs, fun w2 => by simp [Builtin.lenOf, h2], fun w2 hw => ?_, h1, by omega, by simp⟩
      rcases h4 with h4 | ⟨b, o, rfl, h4⟩
      · have : xs = [] := List.eq_nil_of_length_eq_zero (by omega)
        subst this
        have : vs = [] := List.eq_nil_of_length_eq_zero (by have := h1.len; simpa using this)
        subst this
        cases a with
        | none => simp [Builtin.firstCells]
        | some a => simp [Builtin.firstCells, loadCells, loadCellsFrom]
      · rw [h2]
        refine run_firstCells_some w2 size n ⟨b, o, none⟩ n cap vs (by rw [h1.len, h2]) fun j v hv => ?_
        rw [addr_add, hcell w2 _ hw]; exact h4 j v hv
    · split at h
      · rename_i he
        have : xs = [] := by simpa using he
        subst this
        injection h with h; subst h
        simp at hn
        subst hn
        refine ⟨[], fun w2 => by simp [Builtin.lenOf], fun w2 hw => ?_, .nil _ _ _, by simp, by simp⟩
        cases a with
        | none => simp [Builtin.firstCells]
        | some a => simp [Builtin.firstCells, loadCells, loadCellsFrom]
      · cases h
  | lit v =>
    cases v with
    | string b =>
      simp only [srcD] at h
      split at h
      · rename_i hs
        injection h with h; subst h
        have hl : (bytesD b).length = b.size := by simp [bytesD]
        refine ⟨b.data.toList.map fun x => .int .u8 x.toNat, fun w2 => by simp [Builtin.lenOf, hl], fun w2 hw => ?_, ⟨by rw [hs.1]; simp [bytesD], fun i d hd => ?_⟩, by omega, by simp⟩
        · simp only [Builtin.firstCells, hl, Sem.run_pure]
          congr 1
          have : (b.extract 0 b.size) = b := by simp
          rw [this]
          apply Array.ext'
          simp
        · rw [hs.1, Nat.mul_one]
          simp only [bytesD, List.getElem?_map] at hd
          obtain ⟨x, hx, rfl⟩ := Option.map_eq_some_iff.1 hd
          have hx' : i < b.data.toList.length := by
            rcases Nat.lt_or_ge i b.data.toList.length with h | h
            · exact h
            · rw [List.getElem?_eq_none h] at hx; cases hx
          have e : (List.drop i (List.map (fun x : UInt8 => Value.int .u8 x.toNat) b.data.toList)).take 1 = [Value.int .u8 x.toNat] := by
            rw [List.drop_eq_getElem_cons (by simpa using hx')]
            simp only [List.take_succ_cons, List.take_zero, List.getElem_map, List.cons.injEq, and_true]
            rw [List.getElem?_eq_getElem hx'] at hx
            injection hx with hx
            rw [hx]
          rw [e]
          exact .one _ _ rfl rfl (.lit _)
      · cases h
    | _ => cases h
  | vsN id off s a =>
    simp only [srcD] at h
    split at h
    · rename_i e cs hobj
      split at h
      · rw [chunks] at h
        injection h with h; subst h
        refine ⟨[], fun w2 => by simp [Builtin.lenOf], fun w2 hw => ?_, .nil _ _ _, by simp, by simp⟩
        cases a with
        | none => simp [Builtin.firstCells]
        | some a => simp [Builtin.firstCells, loadCells, loadCellsFrom]
      · cases h
    · cases h
  | vs id off s len cap b z hγ hc hz =>
    simp only [srcD] at h
    split at h
    · rename_i e cs hobj
      split at h
      · rename_i hcond
        obtain ⟨hs, h2, h3, h4, h5⟩ := hcond
        subst hs
        have hob := hk.rel.obj id (hk.rel.dom _ _ hγ)
        rw [hobj] at hob
        obtain ⟨_, _, _, g4, _⟩ := hob.2 b z hγ
        have hch : ∃ f : Nat → Value, ∀ j, j < len * s → w.cell? ⟨b, z.1 + off + j, none⟩ = some (f j) ∧ ∃ x, cs[off + j]? = some x ∧ RdT c w x (f j) ∧ (f j).oneCell' = true := by
          refine ⟨fun j => (w.cell? ⟨b, z.1 + off + j, none⟩).getD default, fun j hj => ?_⟩
          have hlt : off + j < cs.length := by omega
          obtain ⟨v, k1, k2⟩ := g4 (off + j) _ (List.getElem?_eq_getElem hlt)
          rw [← Nat.add_assoc] at k1
          simp only [k1, Option.getD_some]
          exact ⟨trivial, _, List.getElem?_eq_getElem hlt, k2, (flat_one k2 (List.all_eq_true.1 h4 _ (List.getElem_mem hlt))).2⟩
        obtain ⟨f, hf⟩ := hch
        obtain ⟨k1, k2⟩ := chunks_ok (c := c) (w := w) (fun ha => by rw [h3 ha]) len (cs.drop off) ((List.range (len * s)).map f) h (by simp; omega) (by simp) (fun j t v a1 a2 => by
          have hj : j < len * s := by
            rcases Nat.lt_or_ge j (len * s) with h | h
            · exact h
            · rw [List.getElem?_eq_none (by simpa using h)] at a2; cases a2
          rw [List.getElem?_drop] at a1
          simp only [List.getElem?_map, List.getElem?_range hj, Option.map_some, Option.some.injEq] at a2
          subst a2
          obtain ⟨_, x, hx, hx2, hx3⟩ := hf j hj
          rw [hx] at a1; injection a1 with a1; subst a1
          exact ⟨hx2, hx3⟩)
        refine ⟨_, fun w2 => by simp [Builtin.lenOf, k2], fun w2 hw => ?_, k1, by omega, by simp⟩
        rw [k2]
        refine run_firstCells_some w2 s len ⟨b, z.1 + off, none⟩ len cap _ (by simp) fun j v hv => ?_
        have hj : j < len * s := by
          rcases Nat.lt_or_ge j (len * s) with h | h
          · exact h
          · rw [List.getElem?_eq_none (by simpa using h)] at hv; cases hv
        simp only [List.getElem?_map, List.getElem?_range hj, Option.map_some, Option.some.injEq] at hv
        subst hv
        rw [addr_add, hcell w2 _ hw]; exact (hf j hj).1
      · cases h
    · cases h
  | _ => cases h
end Go.Proofs.YteafcknljhglkaaDoor.TL
