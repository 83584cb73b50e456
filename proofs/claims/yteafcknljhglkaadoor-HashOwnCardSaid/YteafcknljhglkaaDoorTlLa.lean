/-
  Rows that may be written: they grow; what is copied into them.
-/
import Derived.Test.YteafcknljhglkaaDoorTlL
set_option linter.unusedVariables false
set_option linter.unusedSimpArgs false
namespace Go.Proofs.YteafcknljhglkaaDoor.TL
open Go.RowKit

/-- A new id for something that has no block yet. -/
theorem Rel.virtual' {w0 : World} {c : Cx} {S : TS} {w : World} (h : Rel w0 c S w) (o : TObj) (ho : o = .lin ∨ ∃ e, o = .cells e []) : ∃ c', Rel w0 c' (S.push o) w ∧ Mono c w c' w ∧ c'.γ S.n = none ∧ c'.n = S.n + 1 := by
  have hn : c.γ S.n = none := by
    cases hg : c.γ S.n with
    | none => rfl
    | some x => have := h.dom _ _ hg; omega
  have m : Mono c w { c with n := S.n + 1 } w := ⟨fun _ _ h => h, fun _ _ _ => rfl, fun _ _ h => h, by have := h.cn; show c.n ≤ S.n + 1; omega⟩
  have hn' : ({ c with n := S.n + 1 } : Cx).γ S.n = none := hn
  refine ⟨{ c with n := S.n + 1 }, ⟨h.below, fun id x hx => by have := h.dom id x hx; show id < S.n + 1; omega, ?_, ?_, h.cell, ?_, rfl⟩, m, hn, rfl⟩
  · intro id hid
    have hid' : id < S.n + 1 := hid
    rw [TS.push_objs]
    by_cases hi : id = S.n
    · subst hi
      rw [if_pos rfl]
      rcases ho with rfl | ⟨e, rfl⟩
      · intro b e hb; rw [hn'] at hb; cases hb
      · exact ⟨fun _ => rfl, fun b e hb => by rw [hn'] at hb; cases hb⟩
    · rw [if_neg hi]; exact (h.obj id (by omega)).keep m rfl (fun _ b e _ => ⟨rfl, fun _ h => h⟩)
  · intro i j b e1 e2 hi hj li lj gi gj
    have h1 := h.dom _ _ gi
    have h2 := h.dom _ _ gj
    rw [TS.push_objs, if_neg (by omega)] at li
    rw [TS.push_objs, if_neg (by omega)] at lj
    exact h.inj i j b e1 e2 h1 h2 li lj gi gj
  · intro id hid
    have hid' : S.n + 1 ≤ id := hid
    rw [TS.push_objs, if_neg (by omega)]
    exact h.wf id (by omega)

/-- The cells behind a place are told no more. -/
theorem Rel.trunc {w0 : World} {c : Cx} {S : TS} {w : World} (h : Rel w0 c S w) {id e : Nat} {cs : List TV} (hobj : S.objs id = .cells e cs) (n : Nat) : Rel w0 c (S.set id (.cells e (cs.take n))) w := by
  refine ⟨h.below, h.dom, fun i hi => ?_, fun i j b e1 e2 hi hj li lj gi gj => ?_, h.cell, fun i hi => ?_, h.cn⟩
  · rw [TS.set_objs]
    by_cases hii : i = id
    · rw [if_pos hii]
      subst hii
      have hob := h.obj i hi
      rw [hobj] at hob
      refine ⟨fun hn => by rw [hob.1 hn]; simp, fun b z hz => ?_⟩
      obtain ⟨g2, ⟨arr, fr, g3, gz, gl⟩, gf, g4, g5⟩ := hob.2 b z hz
      refine ⟨g2, ⟨arr, fr, g3, gz, by have : (cs.take n).length ≤ cs.length := by simp; omega
                                       omega⟩, gf, fun j x hx => ?_, g5⟩
      rw [List.getElem?_take] at hx
      split at hx
      · exact g4 j x hx
      · cases hx
    · rw [if_neg hii]; exact h.obj i hi
  · have key : ∀ k, ((S.set id (.cells e (cs.take n))).objs k).live = true → (S.objs k).live = true := by
      intro k hk
      rw [TS.set_objs] at hk
      by_cases hki : k = id
      · rw [hki, hobj]; rfl
      · rwa [if_neg hki] at hk
    exact h.inj i j b e1 e2 hi hj (key i li) (key j lj) gi gj
  · rw [TS.set_objs]
    split
    · rename_i hii
      have := h.wf i hi
      rw [hii, hobj] at this; cases this
    · exact h.wf i hi
/-- The cells of a row that may be written. -/
theorem vs_cells {E : Env} {w0 : World} {c : Cx} {S : TS} {w : World} (hk : Ok E w0 c S w) {ag : Bool} {id off s len : Nat} {v : Value} {ys : List D} (hr : RdT c w (.vs id off s len) v) (h : srcD S ag s (.vs id off s len) = some ys) :
    ys.length = len ∧ len ≤ LIM ∧ ((∃ a, v = .slice a 0 0 ∧ ys = []) ∨ ∃ b e cap news, c.γ id = some (b, e) ∧ v = .slice (some ⟨b, e.1 + off, none⟩) len cap ∧ len ≤ cap ∧ e.1 + off + cap * s ≤ e.2 ∧ RdEs c.A w s ys news ∧
      ∀ (j : Nat) x, news[j]? = some x → w.cell? ⟨b, e.1 + off + j, none⟩ = some x) := by
  simp only [srcD] at h
  split at h
  · rename_i e cs hobj
    split at h
    · rename_i hcond
      obtain ⟨_, h2, h3, h4, h5⟩ := hcond
      cases hr with
      | vsN id off s a hn =>
        rw [chunks] at h
        injection h with h; subst h
        exact ⟨rfl, h5, .inl ⟨a, rfl, rfl⟩⟩
      | vs id off s len cap b z hγ hc hz =>
        have hob := hk.rel.obj id (hk.rel.dom _ _ hγ)
        rw [hobj] at hob
        obtain ⟨_, _, _, g4, _⟩ := hob.2 b z hγ
        have hch : ∃ f : Nat → Value, ∀ j, j < len * s → w.cell? ⟨b, z.1 + off + j, none⟩ = some (f j) ∧ ∃ x, cs[off + j]? = some x ∧ RdT c w x (f j) ∧ (f j).oneCell' = true := by
          refine ⟨fun j => (w.cell? ⟨b, z.1 + off + j, none⟩).getD default, fun j hj => ?_⟩
          have hlt : off + j < cs.length := by omega
          obtain ⟨v, k1, k2⟩ := g4 (off + j) _ (List.getElem?_eq_getElem hlt)
          rw [← Nat.add_assoc] at k1
          simp only [k1, Option.getD_some]
          exact ⟨trivial, _, List.getElem?_eq_getElem hlt, k2, (flat_one k2 (List.all_eq_true.1 h4 _ (List.getElem_mem hlt))).2⟩
        obtain ⟨f, hf⟩ := hch
        obtain ⟨k1, k2⟩ := chunks_ok (c := c) (w := w) (fun ha => by rw [h3 ha]) len (cs.drop off) ((List.range (len * s)).map f) h (by simp; omega) (by simp) (fun j t v a1 a2 => by
          have hj : j < len * s := by
            rcases Nat.lt_or_ge j (len * s) with h | h
            · exact h
            · rw [List.getElem?_eq_none (by simpa using h)] at a2; cases a2
          rw [List.getElem?_drop] at a1
          simp only [List.getElem?_map, List.getElem?_range hj, Option.map_some, Option.some.injEq] at a2
          subst a2
          obtain ⟨_, x, hx, hx2, hx3⟩ := hf j hj
          rw [hx] at a1; injection a1 with a1; subst a1
          exact ⟨hx2, hx3⟩)
        refine ⟨k2, h5, .inr ⟨b, z, cap, _, hγ, rfl, hc, hz, k1, fun j x hx => ?_⟩⟩
        have hj : j < len * s := by
          rcases Nat.lt_or_ge j (len * s) with h | h
          · exact h
          · rw [List.getElem?_eq_none (by simpa using h)] at hx; cases hx
        simp only [List.getElem?_map, List.getElem?_range hj, Option.map_some, Option.some.injEq] at hx
        subst hx
        exact (hf j hj).1
    · cases h
  · cases h

/-- A row's block goes on under a new id, from a place on, with so many cells more (of which nothing is told). -/
theorem Rel.rebase {w0 : World} {c : Cx} {S : TS} {w : World} (h : Rel w0 c S w) {id e b : Nat} {z : Nat × Nat} {cs : List TV} (hobj : S.objs id = .cells e cs) (hγ : c.γ id = some (b, z)) (off m : Nat) (ho : off ≤ cs.length) (hroom : z.1 + cs.length + m ≤ z.2) :
    ∃ c', Rel w0 c' ((S.set id .gone).push (.cells e (cs.drop off ++ List.replicate m .unk))) w ∧ Mono c w c' w ∧ c'.γ S.n = some (b, (z.1 + off, z.2)) := by
  let c' : Cx := { A := c.A, γ := fun i => if i = S.n then some (b, (z.1 + off, z.2)) else c.γ i, n := S.n + 1 }
  have hid := h.dom _ _ hγ
  have hob := h.obj id hid
  rw [hobj] at hob
  obtain ⟨g2, ⟨arr, fr, g3, gz, gl⟩, gf, g4, g5⟩ := hob.2 b z hγ
  have m1 : Mono c w c' w := by
    refine ⟨fun _ _ h => h, fun _ _ _ => rfl, fun id x hx => ?_, by have := h.cn; show c.n ≤ S.n + 1; omega⟩
    have := h.dom id x hx
    show (if id = S.n then _ else _) = _
    rw [if_neg (by omega)]; exact hx
  have hγn : c'.γ S.n = some (b, (z.1 + off, z.2)) := if_pos rfl
  have hlive : (S.objs id).live = true := by rw [hobj]; rfl
  refine ⟨c', ⟨h.below, ?_, ?_, ?_, h.cell, ?_, rfl⟩, m1, hγn⟩
  · intro k x hx
    show k < S.n + 1
    by_cases hk : k = S.n
    · omega
    · have : c.γ k = some x := by simpa [c', hk] using hx
      have := h.dom k x this; omega
  · intro k hk
    have hk' : k < S.n + 1 := hk
    rw [TS.push_objs, TS.set_n]
    by_cases hkn : k = S.n
    · rw [if_pos hkn]
      subst hkn
      refine ⟨fun hn => (by rw [hγn] at hn; cases hn), fun b2 z2 hz2 => ?_⟩
      rw [hγn] at hz2
      injection hz2 with hz2; injection hz2 with q1 q2; subst q1 q2
      have hld : (cs.drop off).length = cs.length - off := by simp
      refine ⟨g2, ⟨arr, fr, g3, gz, by simp only [List.length_append, List.length_replicate, hld]; omega⟩, gf, fun j x hx => ?_, g5⟩
      show ∃ v, w.cell? ⟨b, z.1 + off + j, none⟩ = some v ∧ RdT c' w x v
      rcases Nat.lt_or_ge j (cs.drop off).length with hj | hj
      · rw [List.getElem?_append_left hj, List.getElem?_drop] at hx
        obtain ⟨v, p1, p2⟩ := g4 (off + j) x hx
        exact ⟨v, by rw [Nat.add_assoc]; exact p1, p2.step m1⟩
      · rw [List.getElem?_append_right hj, List.getElem?_replicate] at hx
        split at hx
        · rename_i hjm
          injection hx with hx; subst hx
          have hlt : z.1 + off + j < arr.size := by omega
          exact ⟨arr[z.1 + off + j], by simp [World.cell?, g3, hlt], .unk _⟩
        · cases hx
    · rw [if_neg hkn, TS.set_objs]
      by_cases hki : k = id
      · rw [if_pos hki]; trivial
      · rw [if_neg hki]
        exact (h.obj k (by omega)).keep m1 (by simp [c', hkn]) (fun _ b' e' _ => ⟨rfl, fun _ h => h⟩)
  · intro i j b1 e1 e2 hi hj li lj gi gj
    have hi' : i < S.n + 1 := hi
    have hj' : j < S.n + 1 := hj
    rw [TS.push_objs, TS.set_n] at li lj
    have key : ∀ k, k ≠ S.n → (if k = S.n then TObj.cells e (cs.drop off ++ List.replicate m .unk) else (S.set id .gone).objs k).live = true → k ≠ id ∧ (S.objs k).live = true := by
      intro k hk hl
      rw [if_neg hk, TS.set_objs] at hl
      by_cases hki : k = id
      · rw [if_pos hki] at hl; cases hl
      · rw [if_neg hki] at hl; exact ⟨hki, hl⟩
    by_cases hin : i = S.n
    · by_cases hjn : j = S.n
      · omega
      · obtain ⟨k1, k2⟩ := key j hjn lj
        have gj' : c.γ j = some (b1, e2) := by simpa [c', hjn] using gj
        have gb : b = b1 := by
          rw [hin, hγn] at gi
          injection gi with gi; injection gi
        subst gb
        exact absurd (h.inj j id b e2 z (by omega) hid k2 hlive gj' hγ) k1
    · obtain ⟨k1, k2⟩ := key i hin li
      have gi' : c.γ i = some (b1, e1) := by simpa [c', hin] using gi
      by_cases hjn : j = S.n
      · have gb : b = b1 := by
          rw [hjn, hγn] at gj
          injection gj with gj; injection gj
        subst gb
        exact absurd (h.inj i id b e1 z (by omega) hid k2 hlive gi' hγ) k1
      · obtain ⟨q1, q2⟩ := key j hjn lj
        have gj' : c.γ j = some (b1, e2) := by simpa [c', hjn] using gj
        exact h.inj i j b1 e1 e2 (by omega) (by omega) k2 q2 gi' gj'
  · intro k hk
    have hk' : S.n + 1 ≤ k := hk
    rw [TS.push_objs, TS.set_n, if_neg (by omega), TS.set_objs]
    split
    · rfl
    · exact h.wf k (by omega)

/-- The cells of data. -/
def cellD : D → List TV
  | .agg cs => cs.map ofD1
  | d => [ofD1 d]
def cellsD (ds : List D) : List TV := ds.flatMap cellD
theorem cellsD_nil : cellsD [] = [] := rfl
theorem cellsD_cons (d : D) (ds : List D) : cellsD (d :: ds) = cellD d ++ cellsD ds := rfl
theorem cellsD_app (a b : List D) : cellsD (a ++ b) = cellsD a ++ cellsD b := by simp [cellsD]

theorem RdE.cells {c : Cx} {w : World} {d : D} {vs : List Value} (h : RdE c.A w d vs) : vs.length = (cellD d).length ∧ ∀ (j : Nat) t v, (cellD d)[j]? = some t → vs[j]? = some v → RdT c w t v := by
  cases h with
  | one d v hna h1 h =>
    have hc : cellD d = [ofD1 d] := by cases d <;> first | rfl | cases hna
    rw [hc]
    refine ⟨rfl, fun j t u h2 h3 => ?_⟩
    cases j with
    | zero => simp at h2 h3; subst h2 h3; exact rd_ofD1 h
    | succ j => simp at h2
  | agg cs vs hl hna h1 h =>
    refine ⟨by simp [cellD, hl], fun j t u h2 h3 => ?_⟩
    simp only [cellD, List.getElem?_map] at h2
    obtain ⟨d, hd, rfl⟩ := Option.map_eq_some_iff.1 h2
    exact rd_ofD1 (h j d u hd h3)
theorem RdEs.cells {c : Cx} {w : World} {s : Nat} : ∀ (ds : List D) (vs : List Value), RdEs c.A w s ds vs → RdCells c w (cellsD ds) vs.toArray
  | [], vs, h => by
    have : vs = [] := List.eq_nil_of_length_eq_zero (by have := h.len; simpa using this)
    subst this
    exact ⟨rfl, fun j t v h _ => by simp [cellsD] at h⟩
  | d :: ds, vs, h => by
    have hl := h.len
    simp only [List.length_cons, Nat.add_mul, Nat.one_mul] at hl
    have h0 := h.el 0 d (by simp)
    rw [Nat.zero_mul, List.drop_zero] at h0
    obtain ⟨k1, k2⟩ := h0.cells
    have htl : (vs.take s).length = s := by simp; omega
    have hrest : RdEs c.A w s ds (vs.drop s) := ⟨by simp; omega, fun i d' hd => by
      have := h.el (i + 1) d' (by simpa using hd)
      rwa [List.drop_drop, Nat.add_comm s, ← Nat.succ_mul]⟩
    have ih := RdEs.cells ds (vs.drop s) hrest
    rw [htl] at k1
    refine ⟨?_, fun j t v h1 h2 => ?_⟩
    · have := ih.size
      simp only [List.size_toArray, List.length_drop] at this
      rw [cellsD_cons, List.length_append, ← k1, ← this]
      simp; omega
    · rw [cellsD_cons] at h1
      rcases Nat.lt_or_ge j s with hj | hj
      · rw [List.getElem?_append_left (by omega)] at h1
        refine k2 j t v h1 ?_
        rw [List.getElem?_take, if_pos hj]
        simpa using h2
      · rw [List.getElem?_append_right (by omega), ← k1] at h1
        refine ih.rd (j - s) t v h1 ?_
        simp only [List.getElem?_toArray, List.getElem?_drop]
        rw [show s + (j - s) = j by omega]
        simpa using h2

theorem spl_append (xs : List TV) : ∀ (ys a rest : List TV), a.length = ys.length → spl (xs ++ a ++ rest) xs.length ys = xs ++ ys ++ rest := by
  intro ys
  induction ys generalizing xs with
  | nil => intro a rest h; have : a = [] := List.eq_nil_of_length_eq_zero h; subst this; simp [spl]
  | cons y ys ih =>
    intro a rest h
    match a, h with
    | a0 :: a, h =>
      simp only [spl]
      have h1 : (xs ++ a0 :: a ++ rest).set xs.length y = (xs ++ [y]) ++ a ++ rest := by
        rw [List.append_assoc, List.set_append]
        simp
      rw [h1]
      have := ih (xs ++ [y]) a rest (by simpa using h)
      rw [List.length_append, List.length_singleton] at this
      rw [this]; simp

theorem push_selfV (S : TS) (o : TObj) : (S.push o).objs S.n = o := by simp [TS.push]
theorem TS.push_setV (S : TS) (o o' : TObj) : (S.push o).set S.n o' = S.push o' := by
  unfold TS.push TS.set
  congr 1
  funext i
  by_cases h : i = S.n <;> simp [h]

/-- A row that may be written grows. -/
theorem e_appendV {E : Env} {o : Oper} {T : Nat → TV} {S : TS} {x y : Operand} {t u e : TypeId} (ho : o.op = .call { callee := .builtin .append, args := #[x, y], argTypes := #[t, u] }) {i j iu : TI} {id off s len : Nat} {cs : List TV} {ys : List D} {K : TV → TS → Prop}
    (ht : tiOf E.P t = some i) (hd : i.desc = .slice e) (hj : tiOf E.P e = some j) (hu : tiOf E.P u = some iu) (hnu : ∀ k, iu.desc ≠ .int k)
    (hx : evO E T x = .vs id off s len) (hobj : S.objs id = .cells e cs) (hs : s = j.size) (hend : off + len * s = cs.length) (hy : srcD S (isAggD j.desc) j.size (evO E T y) = some ys)
    (hb : (len + ys.length) * j.bytes ≤ LIM) (hb0 : 0 < j.bytes) (hz : j.zero.cells.size = j.size) (h0 : 0 < j.size)
    (hK : K (.vs S.n 0 s (len + ys.length)) ((S.set id .gone).push (.cells e (cs.drop off ++ cellsD ys)))) : ESem E o T S K := by
  refine .of_run fun w0 c w a hk hop => ?_
  rw [ho] at hop
  have h1 := hop x (by simp [Op.operands, Call.operands])
  have h2 := hop y (by simp [Op.operands, Call.operands])
  rw [hx] at h1
  have hred : ∀ v w', (Builtin.append_ #[t, u] o.type #[a.eval x, a.eval y]).run E.P w = .ok v w' → (execOp a.eval o).run E.P w = .ok (.value v) w' := by
    intro v w' h
    unfold execOp
    rw [ho]
    simp only [resolve, Sem.run_bind, Sem.run_pure, Result.andThen_ok, invoke, builtin, List.map_toArray, List.map_cons, List.map_nil, h]
  generalize hvx : a.eval x = vx at h1
  generalize hvy : a.eval y = vy at h2
  rw [hvx, hvy] at hred
  obtain ⟨news, hlen, hfirst, hnews, _, _⟩ := srcD_ok hk h2 hy
  subst hs
  have hlim : len + ys.length ≤ LIM := Nat.le_trans (Nat.le_mul_of_pos_right _ hb0) hb
  have hnl : news.length = ys.length * j.size := hnews.len
  have hLIM : LIM = 140737488355328 := rfl
  have hcy := RdEs.cells (c := c) ys news hnews
  have hcyl : (cellsD ys).length = ys.length * j.size := by have := hcy.size; simp at this; omega
  -- the old cells
  have hold : ∃ (ad : Option Addr) (cap : Nat) (olds : List Value), vx = .slice ad len cap ∧ len ≤ cap ∧ olds.length = len * j.size ∧ RdCells c w (cs.drop off) olds.toArray ∧ (∀ w2 : World, w2.heap = w.heap → (Builtin.firstCells j.size len (.slice ad len cap)).run E.P w2 = .ok olds.toArray w2) ∧
      ((cap = 0 ∧ len = 0) ∨ ∃ b z, c.γ id = some (b, z) ∧ ad = some ⟨b, z.1 + off, none⟩ ∧ z.1 + off + cap * j.size ≤ z.2) := by
    cases h1 with
    | vsN _ _ _ ad hn =>
      have hdr : cs.drop off = [] := List.drop_of_length_le (by omega)
      refine ⟨ad, 0, [], rfl, Nat.le_refl _, by simp, by rw [hdr]; exact ⟨rfl, fun j t v h _ => by simp at h⟩, fun w2 _ => ?_, .inl ⟨rfl, rfl⟩⟩
      cases ad with
      | none => simp [Builtin.firstCells]
      | some a => simp [Builtin.firstCells, loadCells, loadCellsFrom]
    | vs _ _ _ _ cap b z hγ hc hz =>
      have hob := hk.rel.obj id (hk.rel.dom _ _ hγ)
      rw [hobj] at hob
      obtain ⟨_, _, _, g4, _⟩ := hob.2 b z hγ
      have hch : ∃ f : Nat → Value, ∀ q, q < len * j.size → w.cell? ⟨b, z.1 + off + q, none⟩ = some (f q) ∧ ∃ x, cs[off + q]? = some x ∧ RdT c w x (f q) := by
        refine ⟨fun q => (w.cell? ⟨b, z.1 + off + q, none⟩).getD default, fun q hq => ?_⟩
        have hlt : off + q < cs.length := by omega
        obtain ⟨v, k1, k2⟩ := g4 (off + q) _ (List.getElem?_eq_getElem hlt)
        rw [← Nat.add_assoc] at k1
        simp only [k1, Option.getD_some]
        exact ⟨trivial, _, List.getElem?_eq_getElem hlt, k2⟩
      obtain ⟨f, hf⟩ := hch
      refine ⟨_, cap, (List.range (len * j.size)).map f, rfl, hc, by simp, ⟨by simp; omega, fun q t v a1 a2 => ?_⟩, fun w2 hw => ?_, .inr ⟨b, z, hγ, rfl, hz⟩⟩
      · have hq : q < len * j.size := by
          rcases Nat.lt_or_ge q (len * j.size) with h | h
          · exact h
          · rw [List.getElem?_toArray, List.getElem?_eq_none (by simpa using h)] at a2; cases a2
        rw [List.getElem?_drop] at a1
        simp only [List.getElem?_toArray, List.getElem?_map, List.getElem?_range hq, Option.map_some, Option.some.injEq] at a2
        subst a2
        obtain ⟨_, x, hx1, hx2⟩ := hf q hq
        rw [hx1] at a1; injection a1 with a1; subst a1
        exact hx2
      · refine run_firstCells_some w2 j.size len ⟨b, z.1 + off, none⟩ len cap _ (by simp) fun q v hv => ?_
        have hq : q < len * j.size := by
          rcases Nat.lt_or_ge q (len * j.size) with h | h
          · exact h
          · rw [List.getElem?_eq_none (by simpa using h)] at hv; cases hv
        simp only [List.getElem?_map, List.getElem?_range hq, Option.map_some, Option.some.injEq] at hv
        subst hv
        rw [addr_add]
        have : w2.cell? ⟨b, z.1 + off + q, none⟩ = w.cell? ⟨b, z.1 + off + q, none⟩ := by unfold World.cell?; rw [hw]
        rw [this]; exact (hf q hq).1
  obtain ⟨ad, cap, olds, rfl, hcap, hol, hocells, hofirst, hform⟩ := hold
  by_cases hfit : len + ys.length ≤ cap
  · have hrun := run_append_fits (ty := o.type) (tyIs ht) hd (tyIs hj) (tyIs hu) hnu ad len cap vy ys.length news hlen (hfirst w rfl) hfit
    rcases hform with ⟨rfl, rfl⟩ | ⟨b, z, hγ, rfl, hroom⟩
    · have hy0 : ys = [] := List.eq_nil_of_length_eq_zero (by omega)
      subst hy0
      have hn0 : news = [] := List.eq_nil_of_length_eq_zero (by simpa using hnl)
      subst hn0
      have hdr : cs.drop off = [] := List.drop_of_length_le (by omega)
      rw [hdr] at hK
      obtain ⟨c', r1, r2, _, r4⟩ := (hk.rel.drop id).virtual' (.cells e []) (.inr ⟨e, rfl⟩)
      refine ⟨.slice ad 0 0, w, .inl (hred _ _ ?_), _, c', _, hk.step r1 r2, r2, .vsN _ _ _ _ (by rw [r4]; show S.n < S.n + 1; omega), hK⟩
      rw [hrun]
      cases ad <;> simp [storeCells]
    · have hmul : (len + ys.length) * j.size ≤ cap * j.size := Nat.mul_le_mul_right _ hfit
      rw [Nat.add_mul] at hmul
      obtain ⟨c', r, m, gn⟩ := hk.rel.rebase hobj hγ off (ys.length * j.size) (by omega) (by omega)
      have hdl : (cs.drop off).length = len * j.size := by simp; omega
      obtain ⟨w', k1, k2, k3⟩ := Rel.storeN (P := E.P) (off := len * j.size) news (cellsD ys) 0 r (push_selfV _ _) gn (by simp only [List.length_append, List.length_replicate, hdl, hcyl]; omega) (hcy.step m) hnews.flat
      rw [TS.push_setV] at k2
      have hsp := spl_append (cs.drop off) (cellsD ys) (List.replicate (ys.length * j.size) .unk) [] (by simp [hcyl])
      simp only [List.append_nil] at hsp
      rw [Nat.add_zero, ← hdl, hsp] at k2
      refine ⟨.slice (some ⟨b, z.1 + off, none⟩) (len + ys.length) cap, w', .inl (hred _ _ ?_), _, c', _, hk.step k2 (m.trans k3), m.trans k3, ?_, hK⟩
      · rw [hrun]
        simp only [addr_add]
        have e1 : z.1 + off + len * j.size = (z.1 + off, z.2).1 + len * j.size := rfl
        rw [e1, k1]; rfl
      · exact .vs _ 0 _ _ _ _ _ gn hfit (by simpa using hroom)
  · have hd1 := hk.rel.drew
    have hbb : (len + ys.length) * j.bytes ≤ 140737488355328 := hb
    have h63 : ((len + ys.length : Nat) : Int) ≤ 9223372036854775807 := by omega
    have hrun := run_append_grows (ty := o.type) (w := w) (tyIs ht) hd (tyIs hj) (tyIs hu) hnu ad len cap vy ys.length olds news hlen (hfirst w.drew rfl) (hofirst w.drew rfl) hfit h63 (growslice_fits (by omega) hbb)
    generalize hnc : grownCap w (len + ys.length) cap e = nc at hrun
    have hncge : len + ys.length ≤ nc := by rw [← hnc]; exact grown_ge w _ _ _
    generalize hcells : olds.toArray ++ news.toArray ++ Builtin.zeroCells j.zero.cells (nc - (len + ys.length)) = arr at hrun
    have hdl : (cs.drop off).length = len * j.size := by simp; omega
    have hrest : (Builtin.zeroCells j.zero.cells (nc - (len + ys.length))).size = (nc - (len + ys.length)) * j.size := by rw [size_zeroCells, hz]
    have hasz : arr.size = nc * j.size := by
      rw [← hcells]
      simp only [Array.size_append, List.size_toArray, hrest, hol, hnl]
      rw [← Nat.add_mul, ← Nat.add_mul]
      congr 1; omega
    have hrd : RdCells c w.drew (cs.drop off ++ cellsD ys ++ List.replicate ((nc - (len + ys.length)) * j.size) .unk) arr := by
      refine ⟨by rw [hasz]; simp only [List.length_append, List.length_replicate, hdl, hcyl]; rw [← Nat.add_mul, ← Nat.add_mul]; congr 1; omega, fun q t v a1 a2 => ?_⟩
      rw [← hcells] at a2
      rcases Nat.lt_or_ge q (len * j.size) with hq | hq
      · rw [List.getElem?_append_left (by simp only [List.length_append, hdl]; omega), List.getElem?_append_left (by omega)] at a1
        rw [Array.getElem?_append_left (by simp [hol]; omega), Array.getElem?_append_left (by simp [hol]; omega)] at a2
        exact (hocells.rd q t v a1 a2).step hd1.2
      · rcases Nat.lt_or_ge q (len * j.size + ys.length * j.size) with hq2 | hq2
        · rw [List.getElem?_append_left (by simp only [List.length_append, hdl, hcyl]; omega), List.getElem?_append_right (by omega), hdl] at a1
          rw [Array.getElem?_append_left (by simp [hol, hnl]; omega), Array.getElem?_append_right (by simp [hol]; omega)] at a2
          simp only [List.size_toArray, hol] at a2
          exact (hcy.rd _ t v a1 a2).step hd1.2
        · rw [List.getElem?_append_right (by simp only [List.length_append, hdl, hcyl]; omega), List.getElem?_replicate] at a1
          split at a1
          · injection a1 with a1; subst a1; exact .unk _
          · cases a1
    obtain ⟨c', r, m, g⟩ := (hd1.1.drop id).newCells e _ arr hrd
    have r2 := r.trunc (push_selfV _ _) (len * j.size + ys.length * j.size)
    rw [TS.push_setV, List.take_append_of_le_length (by simp only [List.length_append, hdl, hcyl]; omega), List.take_of_length_le (by simp only [List.length_append, hdl, hcyl]; omega)] at r2
    have mm : Mono c w c' (w.drew.alloc (.cells arr e)) := hd1.2.trans m
    refine ⟨_, _, .inl (hred _ _ hrun), _, c', _, hk.step r2 mm, mm, ?_, hK⟩
    exact .vs _ 0 _ _ nc _ _ g hncge (by simp [hasz])
end Go.Proofs.YteafcknljhglkaaDoor.TL
