/-
  Literals, make, copy, and the conversions between strings and bytes, over tree values.
-/
import Derived.Test.YteafcknljhglkaaDoorTlK
import Derived.Laws.MakeOwn
import Derived.Laws.BytesArg
set_option linter.unusedVariables false
set_option linter.unusedSimpArgs false
namespace Go.Proofs.YteafcknljhglkaaDoor.TL
open Go.RowKit

theorem RdCells.set {c : Cx} {w : World} {cs : List TV} {arr : Array Value} (h : RdCells c w cs arr) {t : TV} {v : Value} (hr : RdT c w t v) (i : Nat) : RdCells c w (cs.set i t) (arr.setIfInBounds i v) := by
  refine ⟨by simp [h.size], fun j x u h1 h2 => ?_⟩
  rw [List.getElem?_set] at h1
  rw [Array.getElem?_setIfInBounds] at h2
  by_cases hij : i = j
  · rw [if_pos hij] at h1 h2
    split at h1
    · split at h2
      · injection h1 with h1; injection h2 with h2; subst h1 h2; exact hr
      · cases h2
    · cases h1
  · rw [if_neg hij] at h1 h2
    exact h.rd j x u h1 h2

theorem RdCells.spl {c : Cx} {w : World} : ∀ (vs : List Value) (xs : List TV) (off k : Nat) {cs : List TV} {arr : Array Value}, RdCells c w cs arr → RdCells c w xs vs.toArray →
    RdCells c w (spl cs (off + k) xs) ((vs.zipIdx k).foldl (fun (a : Array Value) (p : Value × Nat) => a.setIfInBounds (off + p.2) p.1) arr)
  | [], xs, off, k, cs, arr, h, hx => by
    have : xs = [] := List.eq_nil_of_length_eq_zero (by have := hx.size; simpa using this.symm)
    subst this; exact h
  | v :: vs, [], off, k, cs, arr, h, hx => by have := hx.size; simp at this
  | v :: vs, x :: xs, off, k, cs, arr, h, hx => by
    simp only [List.zipIdx_cons, List.foldl_cons, TL.spl]
    have hr := hx.rd 0 x v (by simp) (by simp)
    exact RdCells.spl vs xs off (k + 1) (h.set hr (off + k)) ⟨by have := hx.size; simpa using this, fun j t u h1 h2 => hx.rd (j + 1) t u (by simpa using h1) (by simpa using h2)⟩

def fillT (place : Nat → Option (Nat × Nat)) : List TV → List (Nat × TV) → Option (List TV)
  | cs, [] => some cs
  | cs, (i, t) :: rest =>
    match place i with
    | none => none
    | some (off, size) => if (cellsT t).length = size ∧ off + size ≤ cs.length ∧ cellT t = true then fillT place (spl cs off (cellsT t)) rest else none

theorem fill_ok {c : Cx} {w : World} (place : Nat → Option (Nat × Nat)) : ∀ (ps : List (Nat × TV)) (vs : List (Nat × Value)) {cs cs' : List TV} {arr : Array Value}, RdCells c w cs arr → vs.length = ps.length →
    (∀ (j : Nat) p v, ps[j]? = some p → vs[j]? = some v → v.1 = p.1 ∧ RdT c w p.2 v.2) → fillT place cs ps = some cs' → ∃ arr', Instr.fill place arr vs = some arr' ∧ RdCells c w cs' arr'
  | [], vs, cs, cs', arr, h, hl, hr, hf => by
    have : vs = [] := List.eq_nil_of_length_eq_zero (by simpa using hl)
    subst this
    injection hf with hf; subst hf
    exact ⟨arr, rfl, h⟩
  | (i, t) :: ps, [], cs, cs', arr, h, hl, hr, hf => by simp at hl
  | (i, t) :: ps, (i', v) :: vs, cs, cs', arr, h, hl, hr, hf => by
    obtain ⟨e1, e2⟩ := hr 0 (i, t) (i', v) (by simp) (by simp)
    simp only at e1 e2
    subst e1
    simp only [fillT] at hf
    cases hp : place i' with
    | none => rw [hp] at hf; cases hf
    | some q =>
      obtain ⟨off, size⟩ := q
      rw [hp] at hf
      simp only at hf
      split at hf
      · rename_i hc
        obtain ⟨h1, h2, h3⟩ := hc
        obtain ⟨k1, _⟩ := RdCells.of e2 h3
        have hvs : v.cells.size = size := by rw [k1.size, h1]
        have hfold : (v.cells.zipIdx.foldl (fun (a : Array Value) (p : Value × Nat) => a.setIfInBounds (off + p.2) p.1) arr) = (v.cells.toList.zipIdx.foldl (fun (a : Array Value) (p : Value × Nat) => a.setIfInBounds (off + p.2) p.1) arr) := by
          rw [← Array.foldl_toList, Array.toList_zipIdx]
        have hsp := RdCells.spl v.cells.toList (cellsT t) off 0 h (by simpa using k1)
        rw [Nat.add_zero] at hsp
        obtain ⟨arr', g1, g2⟩ := fill_ok place ps vs hsp (by simpa using hl) (fun j p u a b => hr (j + 1) p u (by simpa using a) (by simpa using b)) hf
        refine ⟨arr', ?_, g2⟩
        simp only [Instr.fill, hp]
        rw [if_neg]
        · have : (fun (cs : Array Value) (x : Value × Nat) => match x with | (c, j) => cs.setIfInBounds (off + j) c) = (fun (a : Array Value) (p : Value × Nat) => a.setIfInBounds (off + p.2) p.1) := by
            funext a p; rfl
          rw [this, hfold]; exact g1
        · simp only [hvs, ne_eq, not_true_eq_false, decide_false, Bool.false_or, decide_eq_true_eq, Nat.not_lt, h.size]
          exact h2
      · cases hf

theorem fillT_length (place : Nat → Option (Nat × Nat)) : ∀ (ps : List (Nat × TV)) {cs cs' : List TV}, fillT place cs ps = some cs' → cs'.length = cs.length
  | [], cs, cs', h => by injection h with h; subst h; rfl
  | (i, t) :: ps, cs, cs', h => by
    simp only [fillT] at h
    split at h
    · cases h
    · split at h
      · rw [fillT_length place ps h]; simp
      · cases h

/-- The fields' places in a struct. -/
def placesOf (P : Program) : List Field → Option (List (Nat × Nat))
  | [] => some []
  | f :: fs =>
    match tiOf P f.type, placesOf P fs with
    | some i, some r => some ((f.offset, i.size) :: r)
    | _, _ => none

theorem run_places {P : Program} {w : World} : ∀ (fs : List Field) {r : List (Nat × Nat)}, placesOf P fs = some r → (fs.mapM (m := Sem) fun f => do pure (f.offset, ← sizeOf f.type)).run P w = .ok r w
  | [], r, h => by injection h with h; subst h; simp
  | f :: fs, r, h => by
    simp only [placesOf] at h
    split at h
    · rename_i i r' h1 h2
      injection h with h; subst h
      simp only [List.mapM_cons, Sem.run_bind, (tyIs h1).run_size, Result.andThen_ok, Sem.run_pure, run_places fs h2]
    · cases h

def partsT (E : Env) (T : Nat → TV) (ps : Array (Nat × Operand)) : List (Nat × TV) := ps.toList.map fun p => (p.1, evO E T p.2)

theorem parts_ok {E : Env} {c : Cx} {w : World} {T : Nat → TV} {a : Act} {ps : Array (Nat × Operand)} (h : ∀ x ∈ ps.toList.map (·.2), RdT c w (evO E T x) (a.eval x)) :
    ∀ (j : Nat) p v, (partsT E T ps)[j]? = some p → (ps.map fun (i, x) => (i, a.eval x)).toList[j]? = some v → v.1 = p.1 ∧ RdT c w p.2 v.2 := by
  intro j p v h1 h2
  simp only [partsT, List.getElem?_map] at h1
  obtain ⟨q, hq, rfl⟩ := Option.map_eq_some_iff.1 h1
  simp only [Array.toList_map, List.getElem?_map, hq, Option.map_some, Option.some.injEq] at h2
  subst h2
  exact ⟨rfl, h _ (List.mem_map.2 ⟨q, List.mem_of_getElem? hq, rfl⟩)⟩

theorem q_build {E : Env} {o : Oper} {T : Nat → TV} {S : TS} {t : TypeId} {ps : Array (Nat × Operand)} (ho : o.op = .build t ps) {i : TI} {fs : Array Field} {pl : List (Nat × Nat)} {cs : List TV}
    (ht : tiOf E.P t = some i) (hd : i.desc = .struct fs) (hp : placesOf E.P fs.toList = some pl) (hz : cellT (ofConst i.zero) = true) (hf : fillT (pl[·]?) (cellsT (ofConst i.zero)) (partsT E T ps) = some cs) : QSem E o T S (.agg cs) := by
  intro w0 c w a hk hop
  rw [ho] at hop
  obtain ⟨hz1, _⟩ := RdCells.of (rd_const c w i.zero) hz
  obtain ⟨arr, h1, h2⟩ := fill_ok (c := c) (w := w) (pl[·]?) (partsT E T ps) (ps.map fun (i, x) => (i, a.eval x)).toList hz1 (by simp [partsT]) (parts_ok fun x hx => hop x (by simpa [Op.operands] using hx)) hf
  refine ⟨.agg arr, ?_, .agg _ _ h2.size h2.rd⟩
  unfold execOp
  rw [ho]
  have hm : (fs.mapM (m := Sem) fun f => do pure (f.offset, ← sizeOf f.type)).run E.P w = .ok pl.toArray w := by
    rw [Array.mapM_eq_mapM_toList]
    simp only [Sem.run_map, run_places fs.toList hp, Result.andThen_ok]
  have hpl : (fun (x : Nat) => (pl.toArray)[x]?) = (fun (x : Nat) => pl[x]?) := by funext x; simp
  simp only [Instr.build, Sem.run_bind, (tyIs ht).run_zero, Result.andThen_ok, (tyIs ht).run_und, hd]
  simp only [hm, Result.andThen_ok, hpl, h1, Sem.run_pure]

/-! ### a slice's literal: elements that are fixed at once, or an object of its own -/
theorem litRun {E : Env} {c : Cx} {w : World} {T : Nat → TV} {a : Act} {t e n : Nat} {i j : TI} {ps : Array (Nat × Operand)} (ht : TyIs E.P t i) (hd : i.desc = .slice e) (hj : TyIs E.P e j) (hsz : n * j.size ≤ 2 ^ 24)
    (hop : ∀ x ∈ ps.toList.map (·.2), RdT c w (evO E T x) (a.eval x)) {cs : List TV} (hf : fillT (fun q => some (q * j.size, j.size)) (List.replicate (n * j.size) .unk) (partsT E T ps) = some cs) :
    ∃ arr, (Instr.buildSlice t n (ps.map fun (i, x) => (i, a.eval x))).run E.P w = .ok (.slice (some ⟨w.heap.size, 0, none⟩) n n) (w.alloc (.cells arr e)) ∧ RdCells c w cs arr := by
  obtain ⟨arr, h1, h2⟩ := fill_ok (c := c) (w := w) (fun q => some (q * j.size, j.size)) (partsT E T ps) (ps.map fun (i, x) => (i, a.eval x)).toList (cs := List.replicate (n * j.size) .unk)
    (arr := (Array.range (n * j.size)).map (((if n * j.size = 0 then #[] else j.zero.cells : Array Value))[· % (if n * j.size = 0 then #[] else j.zero.cells : Array Value).size]!))
    ⟨by simp, fun q x u hx _ => by
      have : x = .unk := by
        rw [List.getElem?_replicate] at hx
        split at hx
        · injection hx with hx; exact hx.symm
        · cases hx
      subst this; exact .unk _⟩ (by simp [partsT]) (parts_ok hop) hf
  refine ⟨arr, ?_, h2⟩
  unfold Instr.buildSlice
  simp only [Sem.run_bind, ht.run_und, Result.andThen_ok, hd, hj.run_size]
  rw [if_neg (by omega)]
  by_cases h0 : n * j.size = 0
  · simp only [h0, if_true] at h1 ⊢
    simp only [Sem.run_bind, Sem.run_pure, Result.andThen_ok, h1, newRow, run_newObj, World.alloc_eq]
  · simp only [h0, if_false] at h1 ⊢
    simp only [Sem.run_bind, hj.run_zero, Sem.run_pure, Result.andThen_ok, h1, newRow, run_newObj, World.alloc_eq]

theorem e_lit {E : Env} {o : Oper} {T : Nat → TV} {S : TS} {t e n : Nat} {ps : Array (Nat × Operand)} (ho : o.op = .buildSlice t n ps) {i j : TI} {cs : List TV} {ds : List D} {K : TV → TS → Prop}
    (ht : tiOf E.P t = some i) (hd : i.desc = .slice e) (hj : tiOf E.P e = some j) (h0 : 0 < j.size) (hsz : n * j.size ≤ 2 ^ 24) (hf : fillT (fun q => some (q * j.size, j.size)) (List.replicate (n * j.size) .unk) (partsT E T ps) = some cs)
    (hfl : cs.all flatT = true) (hs : isAggD j.desc = false → j.size = 1) (hc : chunks (isAggD j.desc) j.size n cs = some ds) (hcl : n * j.size ≤ cs.length) (hK : K (.sl .full j.size ds) S) : ESem E o T S K := by
  refine .of_run fun w0 c w a hk hop => ?_
  rw [ho] at hop
  obtain ⟨arr, h1, h2⟩ := litRun (c := c) (tyIs ht) hd (tyIs hj) hsz (fun x hx => hop x (by simpa [Op.operands] using hx)) hf
  have hll : cs.length = n * j.size := by
    have := fillT_length _ _ hf
    simpa using this
  obtain ⟨c', r, m, hA, hγ⟩ := hk.rel.allocFixed (.cells arr e) (fun q => q < arr.size) (fun q hq => by rw [World.cell?_alloc_new]; exact ⟨arr[q], Array.getElem?_eq_getElem hq⟩)
  obtain ⟨k1, k2⟩ := chunks_ok (c := c) (w := w) hs n cs arr.toList hc hcl (by simp [h2.size, hll]) (fun q x v a1 a2 => by
    have hr := h2.rd q x v a1 (by simpa using a2)
    exact ⟨hr, (flat_one hr (List.all_eq_true.1 hfl _ (List.mem_of_getElem? a1))).2⟩)
  have hn : n ≤ LIM := by
    have : n ≤ n * j.size := Nat.le_mul_of_pos_right _ h0
    have hL : LIM = 140737488355328 := rfl
    omega
  refine ⟨_, _, .inl ?_, _, c', S, hk.step r m, m, RdT.sl .full _ _ _ ((k1.step m).sl (b := w.heap.size) (o := 0) k2 (Nat.le_refl n) hn ?_) (show n = n from rfl), hK⟩
  · unfold execOp
    rw [ho]
    simp only [Sem.run_bind, h1, Result.andThen_ok, Sem.run_pure]
  · intro q v hq
    rw [Nat.zero_add, World.cell?_alloc_new]
    have hql : q < arr.size := by
      rcases Nat.lt_or_ge q arr.size with h | h
      · exact h
      · rw [List.getElem?_eq_none (by simpa using h)] at hq; cases hq
    exact ⟨by simpa using hq, (hA q).2 hql⟩

/-- The same, as an object that may be written. -/
theorem e_litV {E : Env} {o : Oper} {T : Nat → TV} {S : TS} {t e n : Nat} {ps : Array (Nat × Operand)} (ho : o.op = .buildSlice t n ps) {i j : TI} {cs : List TV} {K : TV → TS → Prop}
    (ht : tiOf E.P t = some i) (hd : i.desc = .slice e) (hj : tiOf E.P e = some j) (hsz : n * j.size ≤ 2 ^ 24) (hf : fillT (fun q => some (q * j.size, j.size)) (List.replicate (n * j.size) .unk) (partsT E T ps) = some cs)
    (hK : K (.vs S.n 0 j.size n) (S.push (.cells e cs))) : ESem E o T S K := by
  refine .of_run fun w0 c w a hk hop => ?_
  rw [ho] at hop
  obtain ⟨arr, h1, h2⟩ := litRun (c := c) (tyIs ht) hd (tyIs hj) hsz (fun x hx => hop x (by simpa [Op.operands] using hx)) hf
  obtain ⟨c', r, m, g⟩ := hk.rel.newCells e cs arr h2
  have hfl := fillT_length _ _ hf
  have hcl : arr.size = n * j.size := by rw [h2.size]; simpa using hfl
  refine ⟨_, _, .inl ?_, _, c', _, hk.step r m, m, .vs _ 0 _ _ n _ _ g (Nat.le_refl _) (by simp [hcl]), hK⟩
  unfold execOp
  rw [ho]
  simp only [Sem.run_bind, h1, Result.andThen_ok, Sem.run_pure]

/-! ### make -/
/-- A slice of so many zeros (of one cell), as an object that may be written. -/
theorem e_makeV {E : Env} {o : Oper} {T : Nat → TV} {S : TS} {t e : Nat} {x y : Operand} (ho : o.op = .makeSlice t x y) {i j : TI} {kl kc : IntKind} {l : Int} {K : TV → TS → Prop}
    (ht : tiOf E.P t = some i) (hd : i.desc = .slice e) (hj : tiOf E.P e = some j) (hs : j.size = 1) (hz : j.zero.cells = #[j.zero]) (hx : evO E T x = .lit (.int kl l)) (hy : evO E T y = .lit (.int kc l)) (h0 : 0 ≤ l) (hb : j.bytes * l ≤ LIM) (hb0 : 0 < j.bytes)
    (hK : K (.vs S.n 0 1 l.toNat) (S.push (.cells e (List.replicate l.toNat (ofConst1 j.zero))))) : ESem E o T S K := by
  refine .of_run fun w0 c w a hk hop => ?_
  rw [ho] at hop
  have h1 := hop x (by simp [Op.operands])
  have h2 := hop y (by simp [Op.operands])
  rw [hx] at h1; rw [hy] at h2
  have e1 := h1.lit_inv; have e2 := h2.lit_inv
  obtain ⟨inf, hi, hi1, hi2, hi3⟩ := (tyIs hj).inf
  have hL : LIM = 140737488355328 := rfl
  have hll : l ≤ LIM := by
    have : l ≤ j.bytes * l := by
      have : (1 : Int) * l ≤ j.bytes * l := Int.mul_le_mul_of_nonneg_right (by omega) h0
      omega
    omega
  have hrun := run_make (P := E.P) w t e inf j.zero (by rw [(tyIs ht).und, hd]) hi hi3 kl kc l l h0 (Int.le_refl _) (by rw [hi2]; omega) (by omega)
  rw [hi1, hs, Nat.mul_one] at hrun
  have hrd : RdCells c w (List.replicate l.toNat (ofConst1 j.zero)) (madeCells j.zero.cells l.toNat) := by
    refine ⟨by simp [size_madeCells], fun q t v a1 a2 => ?_⟩
    have ht' : t = ofConst1 j.zero := by
      rw [List.getElem?_replicate] at a1
      split at a1
      · injection a1 with a1; exact a1.symm
      · cases a1
    have hv : v = j.zero := by
      rw [hz] at a2
      simp [madeCells, Nat.mod_one] at a2
      exact a2.2.symm
    subst ht' hv
    exact rd_const1 c w _
  obtain ⟨c', r, m, g⟩ := hk.rel.newCells e _ _ hrd
  have hcl : (madeCells j.zero.cells l.toNat).size = l.toNat := by rw [size_madeCells]
  refine ⟨_, _, .inl ?_, _, c', _, hk.step r m, m, .vs _ 0 _ _ l.toNat _ _ g (Nat.le_refl _) (by simp [hcl]), hK⟩
  unfold execOp
  rw [ho]
  simp only [e1, e2, Sem.run_bind, hrun, Result.andThen_ok, Sem.run_pure]

/-- The same, fixed at once. -/
theorem e_make {E : Env} {o : Oper} {T : Nat → TV} {S : TS} {t e : Nat} {x y : Operand} (ho : o.op = .makeSlice t x y) {i j : TI} {kl kc : IntKind} {l : Int} {d : D} {K : TV → TS → Prop}
    (ht : tiOf E.P t = some i) (hd : i.desc = .slice e) (hj : tiOf E.P e = some j) (hs : j.size = 1) (hz : j.zero.cells = #[j.zero]) (hzd : toD1 (ofConst1 j.zero) = some d) (hz1 : j.zero.oneCell' = true) (hx : evO E T x = .lit (.int kl l)) (hy : evO E T y = .lit (.int kc l)) (h0 : 0 ≤ l) (hb : j.bytes * l ≤ LIM) (hb0 : 0 < j.bytes)
    (hK : K (.sl .full 1 (List.replicate l.toNat d)) S) : ESem E o T S K := by
  refine .of_run fun w0 c w a hk hop => ?_
  rw [ho] at hop
  have h1 := hop x (by simp [Op.operands])
  have h2 := hop y (by simp [Op.operands])
  rw [hx] at h1; rw [hy] at h2
  have e1 := h1.lit_inv; have e2 := h2.lit_inv
  obtain ⟨inf, hi, hi1, hi2, hi3⟩ := (tyIs hj).inf
  have hL : LIM = 140737488355328 := rfl
  have hll : l ≤ LIM := by
    have : l ≤ j.bytes * l := by
      have : (1 : Int) * l ≤ j.bytes * l := Int.mul_le_mul_of_nonneg_right (by omega) h0
      omega
    omega
  have hrun := run_make (P := E.P) w t e inf j.zero (by rw [(tyIs ht).und, hd]) hi hi3 kl kc l l h0 (Int.le_refl _) (by rw [hi2]; omega) (by omega)
  rw [hi1, hs, Nat.mul_one] at hrun
  have hsz : (madeCells j.zero.cells l.toNat).size = l.toNat := size_madeCells _ _
  have hcell : ∀ (q : Nat) v, (madeCells j.zero.cells l.toNat)[q]? = some v → v = j.zero := by
    intro q v a2
    rw [hz] at a2
    simp [madeCells, Nat.mod_one] at a2
    exact a2.2.symm
  obtain ⟨c', r, m, hA, hγ⟩ := hk.rel.allocFixed (.cells (madeCells j.zero.cells l.toNat) e) (fun q => q < l.toNat) (fun q hq => by rw [World.cell?_alloc_new]; exact ⟨_, Array.getElem?_eq_getElem (by omega)⟩)
  have hE : RdEs c'.A (w.alloc (.cells (madeCells j.zero.cells l.toNat) e)) 1 (List.replicate l.toNat d) (List.replicate l.toNat j.zero) := by
    refine ⟨by simp, fun q x hx => ?_⟩
    have hq : q < l.toNat ∧ x = d := by
      rw [List.getElem?_replicate] at hx
      split at hx
      · rename_i hq; injection hx with hx; exact ⟨hq, hx.symm⟩
      · cases hx
    obtain ⟨hq, rfl⟩ := hq
    obtain ⟨k1, k2⟩ := toD1_ok (c := c') (w := w.alloc (.cells (madeCells j.zero.cells l.toNat) e)) hzd (rd_const1 _ _ _)
    have : ((List.replicate l.toNat j.zero).drop (q * 1)).take 1 = [j.zero] := by
      rw [Nat.mul_one, List.drop_replicate, List.take_replicate]
      have : min 1 (l.toNat - q) = 1 := by omega
      rw [this]; rfl
    rw [this]
    exact .one _ _ k2 hz1 k1
  refine ⟨_, _, .inl ?_, _, c', S, hk.step r m, m, RdT.sl .full _ _ _ (hE.sl (b := w.heap.size) (o := 0) (by simp) (Nat.le_refl l.toNat) (by omega) ?_) (show l.toNat = l.toNat from rfl), hK⟩
  · unfold execOp
    rw [ho]
    simp only [e1, e2, Sem.run_bind, hrun, Result.andThen_ok, Sem.run_pure]
  · intro q v hq
    have hq' : q < l.toNat ∧ v = j.zero := by
      rw [List.getElem?_replicate] at hq
      split at hq
      · rename_i h; injection hq with hq; exact ⟨h, hq.symm⟩
      · cases hq
    obtain ⟨hq1, rfl⟩ := hq'
    rw [Nat.zero_add, World.cell?_alloc_new]
    have hg : (madeCells j.zero.cells l.toNat)[q]? = some ((madeCells j.zero.cells l.toNat)[q]'(by omega)) := Array.getElem?_eq_getElem (by omega)
    exact ⟨by rw [hg, hcell q _ hg], (hA q).2 hq1⟩

/-! ### copy within objects -/
theorem e_copy {E : Env} {o : Oper} {T : Nat → TV} {S : TS} {x y : Operand} {t e : TypeId} {ty : Array TypeId} (ho : o.op = .call { callee := .builtin .copy, args := #[x, y], argTypes := ty }) (hty : ty[0]? = some t) {i j : TI} {K : TV → TS → Prop}
    {d off l d' off' l' e1 e2 : Nat} {cs cs' : List TV} (ht : tiOf E.P t = some i) (hd : i.desc = .slice e) (hj : tiOf E.P e = some j)
    (hx : evO E T x = .vs d off j.size l) (hy : evO E T y = .vs d' off' j.size l') (hobj : S.objs d = .cells e1 cs) (hobj' : S.objs d' = .cells e2 cs') (hfl : cs'.all flatT = true)
    (h1 : off + min l' l * j.size ≤ cs.length) (h2 : off' + min l' l * j.size ≤ cs'.length)
    (hK : K (.lit (.int .i64 ((min l' l : Nat) : Int))) (S.set d (.cells e1 (spl cs off ((cs'.drop off').take (min l' l * j.size)))))) : ESem E o T S K := by
  refine .of_run fun w0 c w a hk hop => ?_
  rw [ho] at hop
  have hx' := hop x (by simp [Op.operands, Call.operands])
  have hy' := hop y (by simp [Op.operands, Call.operands])
  rw [hx] at hx'; rw [hy] at hy'
  have hred : ∀ v w', (Builtin.copy_ ty o.type #[a.eval x, a.eval y]).run E.P w = .ok v w' → (execOp a.eval o).run E.P w = .ok (.value v) w' := by
    intro v w' h
    unfold execOp
    rw [ho]
    simp only [resolve, Sem.run_bind, Sem.run_pure, Result.andThen_ok, invoke, builtin, List.map_toArray, List.map_cons, List.map_nil, h]
  generalize hvx : a.eval x = vx at hx'
  generalize hvy : a.eval y = vy at hy'
  have hmt : min l' l = 0 → ∃ v w', ((execOp a.eval o).run E.P w = .ok (.value v) w' ∨ ((execOp a.eval o).run E.P w = .ok .skip w' ∧ v = undef)) ∧ Fin E w0 c w K v w' := by
    intro hm
    rw [hm, Nat.zero_mul, List.take_zero] at hK
    simp only [spl] at hK
    rw [TS.set_same S d _ hobj] at hK
    have hl1 : ∃ a2 c2, vx = .slice a2 l c2 := by cases hx' <;> exact ⟨_, _, rfl⟩
    have hl2 : ∃ a2 c2, vy = .slice a2 l' c2 := by cases hy' <;> exact ⟨_, _, rfl⟩
    obtain ⟨a1, c1, rfl⟩ := hl1
    obtain ⟨a2, c2, rfl⟩ := hl2
    have hmin : Nat.min l' l = 0 := hm
    refine ⟨.int .i64 ((0 : Nat) : Int), w, .inl (hred _ _ ?_), _, c, S, hk, Mono.refl c w, .lit _, hK⟩
    rw [hvx, hvy]
    simp only [Builtin.copy_, hty, List.getElem?_toArray, List.getElem?_cons_zero, List.getElem?_cons_succ, Sem.run_bind, (tyIs ht).run_und, hd, Result.andThen_ok, Sem.run_pure, Builtin.lenOf, (tyIs hj).run_size, hmin]
    cases a2 <;> cases a1 <;> simp [Builtin.firstCells, loadCells, loadCellsFrom, storeCells, goInt]
  cases hx' with
  | vsN => exact hmt (by omega)
  | vs _ _ _ _ cap b z hγ hc hcz =>
  cases hy' with
  | vsN => exact hmt (by omega)
  | vs _ _ _ _ cap' b' z' hγ' hc' hcz' =>
    have hob := hk.rel.obj d' (hk.rel.dom _ _ hγ')
    rw [hobj'] at hob
    obtain ⟨_, _, _, g4, _⟩ := hob.2 b' z' hγ'
    have hch : ∃ f : Nat → Value, ∀ q, q < min l' l * j.size → w.cell? ⟨b', z'.1 + off' + q, none⟩ = some (f q) ∧ ∃ x, cs'[off' + q]? = some x ∧ RdT c w x (f q) ∧ (f q).oneCell' = true := by
      refine ⟨fun q => (w.cell? ⟨b', z'.1 + off' + q, none⟩).getD default, fun q hq => ?_⟩
      have hlt : off' + q < cs'.length := by omega
      obtain ⟨v, k1, k2⟩ := g4 (off' + q) _ (List.getElem?_eq_getElem hlt)
      rw [← Nat.add_assoc] at k1
      simp only [k1, Option.getD_some]
      exact ⟨trivial, _, List.getElem?_eq_getElem hlt, k2, (flat_one k2 (List.all_eq_true.1 hfl _ (List.getElem_mem hlt))).2⟩
    obtain ⟨f, hf⟩ := hch
    have hload := run_loadCells E.P w b' (z'.1 + off') (min l' l * j.size) f (fun q hq => (hf q hq).1)
    have hrd : RdCells c w ((cs'.drop off').take (min l' l * j.size)) ((List.range (min l' l * j.size)).map f).toArray := by
      refine ⟨by simp; omega, fun q t v a1 a2 => ?_⟩
      rw [List.getElem?_take] at a1
      split at a1
      · rename_i hq
        rw [List.getElem?_drop] at a1
        simp only [List.getElem?_toArray, List.getElem?_map, List.getElem?_range hq, Option.map_some, Option.some.injEq] at a2
        subst a2
        obtain ⟨_, x, hx1, hx2, _⟩ := hf q hq
        rw [hx1] at a1; injection a1 with a1; subst a1
        exact hx2
      · cases a1
    obtain ⟨w', k1, k2, k3⟩ := Rel.storeN (P := E.P) (off := off) ((List.range (min l' l * j.size)).map f) ((cs'.drop off').take (min l' l * j.size)) 0 hk.rel hobj hγ (by simp; omega) hrd (fun v hv => by
      simp only [List.mem_map, List.mem_range] at hv
      obtain ⟨q, hq, rfl⟩ := hv
      obtain ⟨_, _, _, _, h⟩ := hf q hq
      exact h)
    refine ⟨_, w', .inl ?_, _, c, _, hk.step k2 k3, k3, .lit _, hK⟩
    unfold execOp
    rw [ho]
    simp only [resolve, Sem.run_bind, Sem.run_pure, Result.andThen_ok, invoke, builtin, List.map_toArray, List.map_cons, List.map_nil, Builtin.copy_, hty, hvx, hvy, List.getElem?_toArray, List.getElem?_cons_zero, List.getElem?_cons_succ, (tyIs ht).run_und, hd,
      Builtin.lenOf, (tyIs hj).run_size, Builtin.firstCells]
    have hmin : Nat.min l' l = min l' l := rfl
    rw [hmin, hload]
    simp only [Result.andThen_ok, k1, goInt, Sem.run_pure]

/-! ### strings and bytes -/
theorem bytesWorld_eq (w : World) (e : TypeId) (s : ByteArray) : Lib.bytesWorld w e s = w.drew.alloc (.cells (Lib.bytesCells w e s) e ((Lib.bytesCells w e s).size, (Lib.bytesCells w e s).size + 1)) := by
  have h : (Lib.bytesWorld w e s).heap = (w.drew.alloc (.cells (Lib.bytesCells w e s) e ((Lib.bytesCells w e s).size, (Lib.bytesCells w e s).size + 1))).heap := by
    apply Array.ext_getElem?
    intro j
    rcases Nat.lt_trichotomy j w.heap.size with hj | hj | hj
    · rw [Lib.bytesWorld_at_old w e s j hj, Below.heap_alloc _ _ _ (by rw [World.size_drew]; exact hj)]
      rfl
    · subst hj
      rw [Lib.bytesWorld_at_new]
      have := heap_alloc_new w.drew (.cells (Lib.bytesCells w e s) e ((Lib.bytesCells w e s).size, (Lib.bytesCells w e s).size + 1))
      rw [World.size_drew] at this
      rw [this]
    · rw [Array.getElem?_eq_none (by rw [Lib.bytesWorld_size]; omega), Array.getElem?_eq_none (by rw [World.size_alloc, World.size_drew]; omega)]
  have h2 : (Lib.bytesWorld w e s).os = w.os ∧ (Lib.bytesWorld w e s).tape = w.tape ∧ (Lib.bytesWorld w e s).output = w.output ∧ (Lib.bytesWorld w e s).drawn = w.drawn + 1 := by
    unfold Lib.bytesWorld World.freeze
    simp only [Nat.one_ne_zero, if_false]
    exact ⟨rfl, rfl, rfl, rfl⟩
  generalize Lib.bytesWorld w e s = w1 at h h2
  obtain ⟨heap, tape, drawn, os, output⟩ := w1
  obtain ⟨h3, h4, h5, h6⟩ := h2
  simp only at h h3 h4 h5 h6
  subst h3 h4 h5 h6
  simp only [World.alloc, World.drew] at h ⊢
  simp only [World.mk.injEq, and_true, true_and]
  exact h

theorem e_strBytes {E : Env} {o : Oper} {T : Nat → TV} {S : TS} {s d e : TypeId} {x : Operand} (ho : o.op = .convert s d x) {i j ie : TI} {b : ByteArray} {K : TV → TS → Prop}
    (hs : tiOf E.P s = some i) (hd : tiOf E.P d = some j) (hj : j.desc = .slice e) (he : tiOf E.P e = some ie) (hie : ie.desc = .int .u8) (hx : evO E T x = .lit (.string b)) (hb : b.size ≤ LIM)
    (hK : K (.sl (.own S.n) 1 (bytesD b)) (S.push .lin)) : ESem E o T S K := by
  refine .of_run fun w0 c w a hk hop => ?_
  rw [ho] at hop
  have h1 := hop x (by simp [Op.operands])
  rw [hx] at h1
  have e1 := h1.lit_inv
  have hrun := Lib.run_convert_string_bytes (P := E.P) w s d e b (tyIs hs).und (by rw [(tyIs hd).und, hj]) (by rw [(tyIs he).und, hie])
  rw [bytesWorld_eq] at hrun
  have hsz : b.size ≤ grownCap w b.size 0 e := grown_ge w b.size 0 e
  have hcs : (Lib.bytesCells w e b).size = grownCap w b.size 0 e := by
    simp [Lib.bytesCells]
    omega
  have hcell : ∀ (q : Nat) v, (b.data.toList.map fun x => Value.int .u8 x.toNat)[q]? = some v → (Lib.bytesCells w e b)[q]? = some v := by
    intro q v hq
    have hql : q < b.data.toList.length := by
      rcases Nat.lt_or_ge q b.data.toList.length with h | h
      · exact h
      · rw [List.getElem?_eq_none (by simpa using h)] at hq; cases hq
    unfold Lib.bytesCells
    rw [Array.getElem?_append_left (by simpa using hql)]
    simpa using hq
  generalize Lib.bytesCells w e b = arr at *
  have hd1 := hk.rel.drew
  have hbl : b.data.toList.length = b.size := by simp
  obtain ⟨c', r, m, gn, hA⟩ := hd1.1.alloc (.cells arr e (arr.size, arr.size + 1)) .lin (b.size, arr.size) (fun q => q < b.size)
    (fun q hq => ⟨arr[q]'(by omega), by
      unfold World.cell?
      simp only [heap_alloc_new w.drew, Option.isSome_none, Bool.false_eq_true, if_false]
      exact Array.getElem?_eq_getElem (by omega)⟩)
    (by
      intro c' m gn hA b' e'' hb'
      rw [gn] at hb'
      injection hb' with hb'; injection hb' with h1 h2; subst h1 h2
      refine ⟨hd1.1.le, ⟨arr, e, _, heap_alloc_new _ _, Nat.le_refl _⟩, fun q _ hq => ?_, fun q hq ha => ?_⟩
      · simp only at hq
        unfold World.frozen?
        simp only [heap_alloc_new w.drew]
        rw [Bool.and_eq_false_iff]
        left
        simp
        omega
      · have := (hA q).1 ha
        simp only at hq
        omega)
  have mm : Mono c w c' (w.drew.alloc (.cells arr e (arr.size, arr.size + 1))) := hd1.2.trans m
  have hE : RdEs c'.A (w.drew.alloc (.cells arr e (arr.size, arr.size + 1))) 1 (bytesD b) (b.data.toList.map fun x => Value.int .u8 x.toNat) := by
    refine ⟨by simp [bytesD], fun q d hq => ?_⟩
    simp only [bytesD, List.getElem?_map] at hq
    obtain ⟨x, hx, rfl⟩ := Option.map_eq_some_iff.1 hq
    have hx' : q < b.data.toList.length := by
      rcases Nat.lt_or_ge q b.data.toList.length with h | h
      · exact h
      · rw [List.getElem?_eq_none h] at hx; cases hx
    rw [Nat.mul_one, List.drop_eq_getElem_cons (by simpa using hx')]
    simp only [List.take_succ_cons, List.take_zero, List.getElem_map]
    rw [List.getElem?_eq_getElem hx'] at hx
    injection hx with hx
    rw [hx]
    exact .one _ _ rfl rfl (.lit _)
  refine ⟨_, _, .inl ?_, _, c', _, hk.step r mm, mm, RdT.sl (.own S.n) _ _ _ (hE.sl (b := w.heap.size) (o := 0) (n := b.size) (cap := grownCap w b.size 0 e) (by simp [bytesD]) hsz hb ?_) ⟨by rw [r.cn]; show S.n < S.n + 1; omega, .inr ⟨w.heap.size, 0, b.size, arr.size, rfl, gn, by simp, by omega⟩⟩, hK⟩
  · unfold execOp
    rw [ho]
    simp only [e1, Sem.run_bind, hrun, Result.andThen_ok, Sem.run_pure]
  · intro q v hq
    have hql : q < b.size := by
      rcases Nat.lt_or_ge q b.data.toList.length with h | h
      · omega
      · rw [List.getElem?_eq_none (by simpa using h)] at hq; cases hq
    rw [Nat.zero_add]
    have hh := heap_alloc_new w.drew (.cells arr e (arr.size, arr.size + 1))
    rw [World.size_drew] at hh
    refine ⟨?_, (hA q).2 hql⟩
    unfold World.cell?
    simp only [hh, Option.isSome_none, Bool.false_eq_true, if_false]
    exact hcell q v hq

theorem RdD.lit_inv {A : Nat → Nat → Prop} {w : World} {v u : Value} (h : RdD A w (.lit v) (.val u)) : u = v := by
  generalize hx : D.lit v = d at h
  generalize hy : Tgt.val u = y at h
  cases h with
  | lit v' => injection hx with hx; injection hy with hy; subst hx hy; rfl
  | one => cases hy
  | _ => cases hx

/-- Bytes that are all numbers, as a string. -/
def unbytes : List D → Option (List Int)
  | [] => some []
  | .lit (.int .u8 n) :: xs => (unbytes xs).map (n :: ·)
  | _ :: _ => none
theorem unbytes_ok : ∀ {xs : List D} {ns : List Int}, unbytes xs = some ns → ns.length = xs.length ∧ ∀ (q : Nat) d, xs[q]? = some d → d = .lit (.int .u8 (ns.getD q 0))
  | [], ns, h => by injection h with h; subst h; exact ⟨rfl, fun q d h => by simp at h⟩
  | x :: xs, ns, h => by
    unfold unbytes at h
    split at h
    · rename_i hh; cases hh
    · rename_i n ys hh
      injection hh with h1 h2; subst h1 h2
      obtain ⟨ms, hm, rfl⟩ := Option.map_eq_some_iff.1 h
      obtain ⟨g1, g2⟩ := unbytes_ok hm
      refine ⟨by simp [g1], fun q d hq => ?_⟩
      cases q with
      | zero => simp at hq; subst hq; rfl
      | succ q => simp at hq; simpa using g2 q d hq
    · cases h
theorem unbytes_bytesD (b : ByteArray) : unbytes (bytesD b) = some (b.data.toList.map fun x => (x.toNat : Int)) := by
  unfold bytesD
  induction b.data.toList with
  | nil => rfl
  | cons x xs ih => simp only [List.map_cons, unbytes, ih, Option.map_some]
theorem strOf_bytes (b : ByteArray) : strOfNums (b.data.toList.map fun x => (x.toNat : Int)) = b := by
  unfold strOfNums
  obtain ⟨arr⟩ := b
  congr 1
  apply Array.ext'
  simp only [List.map_map]
  have : ((fun n : Int => UInt8.ofNat n.toNat) ∘ fun x : UInt8 => (x.toNat : Int)) = id := by
    funext x
    simp
  rw [this, List.map_id]

theorem q_bytesStr {E : Env} {o : Oper} {T : Nat → TV} {S : TS} {s d e : TypeId} {x : Operand} (ho : o.op = .convert s d x) {i j ie : TI} {g : Tag} {xs : List D} {ns : List Int}
    (hs : tiOf E.P s = some i) (hi : i.desc = .slice e) (he : tiOf E.P e = some ie) (hie : ie.desc = .int .u8) (hd : tiOf E.P d = some j) (hj : j.desc = .string) (hx : evO E T x = .sl g 1 xs) (hn : unbytes xs = some ns) : QSem E o T S (.lit (.string (strOfNums ns))) := by
  intro w0 c w a hk hop
  rw [ho] at hop
  have h1 := hop x (by simp [Op.operands])
  rw [hx] at h1
  generalize hv : a.eval x = v at h1
  have hu : E.P.underlying s = some (.slice e) := by rw [(tyIs hs).und, hi]
  have hue : E.P.underlying e = some (.int .u8) := by rw [(tyIs he).und, hie]
  have hud : E.P.underlying d = some .string := by rw [(tyIs hd).und, hj]
  obtain ⟨hl, hg⟩ := unbytes_ok hn
  cases h1 with
  | sl _ _ _ _ hd' _ =>
    have hform : ∃ a n cap, v = .slice a n cap := by
      cases hd' with
      | nil _ a cap => exact ⟨a, 0, cap, rfl⟩
      | sl _ _ b o n cap hn hc _ _ => exact ⟨_, n, cap, rfl⟩
    obtain ⟨ad, n, cap, rfl⟩ := hform
    suffices H : (convert s d (.slice ad n cap)).run E.P w = .ok (.string (strOfNums ns)) w by
      refine ⟨_, ?_, .lit _⟩
      unfold execOp
      rw [ho]
      simp only [hv, Sem.run_bind, H, Result.andThen_ok, Sem.run_pure]
    obtain ⟨vs, k1, k2, _, k4⟩ := hd'.cells_of
    have hvs : ∀ (q : Nat), q < n → vs[q]? = some (.int .u8 (ns.getD q 0)) := by
      intro q hq
      have hqx : q < xs.length := by omega
      have hx0 : xs[q]? = some xs[q] := List.getElem?_eq_getElem hqx
      have hd2 := hg q _ hx0
      have hel := k1.el q _ hx0
      rw [hd2, Nat.mul_one] at hel
      have hvl : q < vs.length := by rw [k1.len]; omega
      rw [List.drop_eq_getElem_cons hvl] at hel
      simp only [List.take_succ_cons, List.take_zero] at hel
      cases hel with
      | one _ _ _ _ hr => rw [List.getElem?_eq_getElem hvl]; congr 1; exact hr.lit_inv
    rcases k4 with k4 | ⟨b, o', rfl, k4⟩
    · have hns : ns = [] := List.eq_nil_of_length_eq_zero (by omega)
      subst hns k4
      cases ad with
      | none => exact run_convert_bytes_nil w s e hu hue 0 cap d hud
      | some p =>
        cases hd' with
        | nil => 
          rw [run_convert_bytes_string w s d e _ 0 cap hu hue hud]
          simp [Conv.bytesToString, loadCells, loadCellsFrom, strOfNums]
          rfl
        | sl _ _ b o _ _ _ _ _ _ => exact run_convert_bytes_arg w s e hu hue b o 0 cap [] rfl (fun i hi => by omega) d hud
    · refine run_convert_bytes_arg w s e hu hue b o' n cap ns (by omega) (fun q hq => ?_) d hud
      exact k4 q _ (hvs q hq)
end Go.Proofs.YteafcknljhglkaaDoor.TL
