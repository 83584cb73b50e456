/-
  Elements as lists of cells; appending to a slice, and copying, over tree values.
-/
import Derived.Test.YteafcknljhglkaaDoorTlG
import Derived.Lib.ConvBytes
import Derived.Laws.IdiomCopy
set_option linter.unusedVariables false
set_option linter.unusedSimpArgs false
namespace Go.Proofs.YteafcknljhglkaaDoor.TL
open Go.RowKit

/-- A datum read off a list of cells. -/
inductive RdE (A : Nat → Nat → Prop) (w : World) : D → List Value → Prop
  | one (d : D) (v : Value) (hna : d.isAgg = false) (h1 : v.oneCell' = true) (h : RdD A w d (.val v)) : RdE A w d [v]
  | agg (cs : List D) (vs : List Value) (hl : vs.length = cs.length) (hna : ∀ (j : Nat) d, cs[j]? = some d → d.isAgg = false)
      (h1 : ∀ v ∈ vs, v.oneCell' = true) (h : ∀ (j : Nat) d v, cs[j]? = some d → vs[j]? = some v → RdD A w d (.val v)) : RdE A w (.agg cs) vs

theorem RdE.step {c c' : Cx} {w w' : World} (m : Mono c w c' w') {d : D} {vs : List Value} (h : RdE c.A w d vs) : RdE c'.A w' d vs := by
  cases h with
  | one d v hna h1 h => exact .one d v hna h1 (h.step m)
  | agg cs vs hl hna h1 h => exact .agg cs vs hl hna h1 (fun j d v a b => (h j d v a b).step m)

theorem RdE.flat {A : Nat → Nat → Prop} {w : World} {d : D} {vs : List Value} (h : RdE A w d vs) : ∀ v ∈ vs, v.oneCell' = true := by
  cases h with
  | one d v hna h1 h => intro x hx; simp at hx; subst hx; exact h1
  | agg cs vs hl hna h1 h => exact h1

theorem RdD.toE {A : Nat → Nat → Prop} {w : World} {d : D} {b o s : Nat} (h : RdD A w d (.at_ b o s)) :
    ∃ vs : List Value, vs.length = s ∧ (∀ (j : Nat) v, vs[j]? = some v → w.cell? ⟨b, o + j, none⟩ = some v ∧ A b (o + j)) ∧ RdE A w d vs := by
  cases hd : d.isAgg with
  | false =>
    obtain ⟨v, hA, hc, h1, hv⟩ := h.cell_of hd
    have hs : s = 1 := by
      generalize hx : Tgt.at_ b o s = x at h
      cases h with
      | one _ _ _ v hna hA hc ho h => injection hx
      | aggAt cs _ _ hna h => cases hd
      | _ => cases hx
    refine ⟨[v], by simp [hs], ?_, .one d v hd h1 hv⟩
    intro j u hu
    cases j with
    | zero => simp at hu; subst hu; exact ⟨hc, hA⟩
    | succ j => simp at hu
  | true =>
    cases d with
    | agg cs =>
      obtain ⟨hs, hna, hh⟩ := h.agg_inv
      have hcell : ∀ j, j < cs.length → ∃ v, A b (o + j) ∧ w.cell? ⟨b, o + j, none⟩ = some v ∧ v.oneCell' = true ∧ RdD A w (cs.getD j default) (.val v) := by
        intro j hj
        have hg : cs[j]? = some (cs.getD j default) := by simp [List.getD_eq_getElem?_getD, List.getElem?_eq_getElem hj]
        exact (hh j _ hg).cell_of (hna j _ hg)
      have hch : ∃ f : Nat → Value, ∀ j, j < cs.length → A b (o + j) ∧ w.cell? ⟨b, o + j, none⟩ = some (f j) ∧ (f j).oneCell' = true ∧ RdD A w (cs.getD j default) (.val (f j)) := by
        refine ⟨fun j => (w.cell? ⟨b, o + j, none⟩).getD default, fun j hj => ?_⟩
        obtain ⟨v, h0, h1, h2, h3⟩ := hcell j hj
        simp only [h1, Option.getD_some]
        exact ⟨h0, trivial, h2, h3⟩
      obtain ⟨f, hf⟩ := hch
      refine ⟨(List.range cs.length).map f, by simp [hs], ?_, .agg cs _ (by simp) hna ?_ ?_⟩
      · intro j v hv
        simp only [List.getElem?_map] at hv
        obtain ⟨k, hk, rfl⟩ := Option.map_eq_some_iff.1 hv
        have hj : j < cs.length := by
          rcases Nat.lt_or_ge j cs.length with h | h
          · exact h
          · rw [List.getElem?_eq_none (by simpa using h)] at hk; cases hk
        rw [List.getElem?_range hj] at hk
        injection hk with hk; subst hk
        exact ⟨(hf j hj).2.1, (hf j hj).1⟩
      · intro v hv
        simp only [List.mem_map, List.mem_range] at hv
        obtain ⟨j, hj, rfl⟩ := hv
        exact (hf j hj).2.2.1
      · intro j d v hd' hv
        have hj : j < cs.length := by
          rcases Nat.lt_or_ge j cs.length with h | h
          · exact h
          · rw [List.getElem?_eq_none h] at hd'; cases hd'
        simp only [List.getElem?_map, List.getElem?_range hj, Option.map_some, Option.some.injEq] at hv
        subst hv
        have := (hf j hj).2.2.2
        rw [List.getD_eq_getElem?_getD, hd'] at this
        exact this
    | _ => cases hd

theorem RdE.at_ {A : Nat → Nat → Prop} {w : World} {d : D} {vs : List Value} (h : RdE A w d vs) {b o : Nat} (hc : ∀ (j : Nat) v, vs[j]? = some v → w.cell? ⟨b, o + j, none⟩ = some v ∧ A b (o + j)) : RdD A w d (.at_ b o vs.length) := by
  cases h with
  | one d v hna h1 h =>
    obtain ⟨h2, h3⟩ := hc 0 v rfl
    exact .one d b o v hna h3 h2 h1 h
  | agg cs vs hl hna h1 h =>
    rw [hl]
    refine .aggAt cs b o hna fun j t ht => ?_
    have hj : j < vs.length := by
      rw [hl]
      rcases Nat.lt_or_ge j cs.length with h | h
      · exact h
      · rw [List.getElem?_eq_none h] at ht; cases ht
    have hv : vs[j]? = some vs[j] := List.getElem?_eq_getElem hj
    obtain ⟨h2, h3⟩ := hc j _ hv
    exact .one t b (o + j) vs[j] (hna j t ht) h3 h2 (h1 _ (List.getElem_mem hj)) (h j t _ ht hv)

/-- Elements read off one list of cells, each of s of them. -/
structure RdEs (A : Nat → Nat → Prop) (w : World) (s : Nat) (ds : List D) (vs : List Value) : Prop where
  len : vs.length = ds.length * s
  el : ∀ (i : Nat) d, ds[i]? = some d → RdE A w d ((vs.drop (i * s)).take s)

theorem RdEs.step {c c' : Cx} {w w' : World} (m : Mono c w c' w') {s : Nat} {ds : List D} {vs : List Value} (h : RdEs c.A w s ds vs) : RdEs c'.A w' s ds vs :=
  ⟨h.len, fun i d hd => (h.el i d hd).step m⟩

theorem RdEs.nil (A : Nat → Nat → Prop) (w : World) (s : Nat) : RdEs A w s [] [] := ⟨by simp, fun i d h => by simp at h⟩

theorem RdEs.append {A : Nat → Nat → Prop} {w : World} {s : Nat} {ds es : List D} {vs us : List Value} (h : RdEs A w s ds vs) (k : RdEs A w s es us) : RdEs A w s (ds ++ es) (vs ++ us) := by
  refine ⟨by simp [h.len, k.len, Nat.add_mul], fun i d hd => ?_⟩
  rcases Nat.lt_or_ge i ds.length with hi | hi
  · rw [List.getElem?_append_left hi] at hd
    have := h.el i d hd
    have hle : i * s + s ≤ vs.length := by
      rw [h.len]
      calc i * s + s = (i + 1) * s := by rw [Nat.succ_mul]
        _ ≤ ds.length * s := Nat.mul_le_mul_right _ hi
    rw [List.drop_append_of_le_length (by omega), List.take_append_of_le_length (by simp; omega)]
    exact this
  · rw [List.getElem?_append_right hi] at hd
    have := k.el _ d hd
    have e : i * s = vs.length + (i - ds.length) * s := by
      rw [h.len, ← Nat.add_mul]; congr 1; omega
    rw [e, ← List.drop_drop, List.drop_left]
    exact this

theorem RdEs.flat {A : Nat → Nat → Prop} {w : World} {s : Nat} {ds : List D} {vs : List Value} (h : RdEs A w s ds vs) : ∀ v ∈ vs, v.oneCell' = true := by
  intro v hv
  obtain ⟨j, hj, rfl⟩ := List.getElem_of_mem hv
  have hl := h.len
  have hs : 0 < s := by
    rcases Nat.eq_zero_or_pos s with h0 | h0
    · subst h0; rw [Nat.mul_zero] at hl; omega
    · exact h0
  have hi : j / s < ds.length := by
    rw [Nat.div_lt_iff_lt_mul hs]; omega
  have := (h.el (j / s) _ (List.getElem?_eq_getElem hi)).flat
  apply this
  rw [List.mem_iff_getElem?]
  refine ⟨j % s, ?_⟩
  rw [List.getElem?_take, if_pos (Nat.mod_lt _ hs), List.getElem?_drop]
  rw [Nat.mul_comm, Nat.div_add_mod]
  exact List.getElem?_eq_getElem hj

/-- A slice's elements as cells. -/
theorem RdD.cells_of {A : Nat → Nat → Prop} {w : World} {s : Nat} {xs : List D} {a : Option Addr} {n cap : Nat} (h : RdD A w (.sl s xs) (.val (.slice a n cap))) :
    ∃ vs : List Value, RdEs A w s xs vs ∧ xs.length = n ∧ n ≤ LIM ∧ (n = 0 ∨ ∃ b o, a = some ⟨b, o, none⟩ ∧ ∀ (j : Nat) v, vs[j]? = some v → w.cell? ⟨b, o + j, none⟩ = some v) := by
  cases h with
  | nil _ _ _ => exact ⟨[], .nil A w s, rfl, by simp, .inl rfl⟩
  | sl _ _ b o _ _ hn hc hm hh =>
    have key : ∀ k, k ≤ xs.length → ∃ vs : List Value, RdEs A w s (xs.take k) vs ∧ ∀ (j : Nat) v, vs[j]? = some v → w.cell? ⟨b, o + j, none⟩ = some v := by
      intro k
      induction k with
      | zero => exact fun _ => ⟨[], by simpa using RdEs.nil A w s, fun j v h => by simp at h⟩
      | succ k ih =>
        intro hk
        obtain ⟨vs, h1, h2⟩ := ih (by omega)
        have hx : xs[k]? = some xs[k] := List.getElem?_eq_getElem (by omega)
        obtain ⟨us, g1, g2, g3⟩ := (hh k _ hx).toE
        have hl : vs.length = k * s := by rw [h1.len, List.length_take, Nat.min_eq_left (by omega)]
        refine ⟨vs ++ us, ?_, ?_⟩
        · rw [List.take_succ_eq_append_getElem (by omega)]
          refine h1.append ⟨by simp [g1], fun i d hd => ?_⟩
          cases i with
          | zero =>
            simp at hd; subst hd
            rw [Nat.zero_mul, List.drop_zero, List.take_of_length_le (by omega)]
            exact g3
          | succ i => simp at hd
        · intro j v hv
          rcases Nat.lt_or_ge j vs.length with hj | hj
          · rw [List.getElem?_append_left hj] at hv; exact h2 j v hv
          · rw [List.getElem?_append_right hj] at hv
            have := (g2 _ v hv).1
            rw [show o + k * s + (j - vs.length) = o + j by omega] at this
            exact this
    obtain ⟨vs, h1, h2⟩ := key xs.length (Nat.le_refl _)
    rw [List.take_length] at h1
    exact ⟨vs, h1, hn, hm, .inr ⟨b, o, rfl, h2⟩⟩

/-- Elements that lie as cells at a place make a slice. -/
theorem RdEs.sl {A : Nat → Nat → Prop} {w : World} {s : Nat} {xs : List D} {vs : List Value} (h : RdEs A w s xs vs) {b o n cap : Nat} (hn : xs.length = n) (hc : n ≤ cap) (hm : n ≤ LIM)
    (hp : ∀ (j : Nat) v, vs[j]? = some v → w.cell? ⟨b, o + j, none⟩ = some v ∧ A b (o + j)) : RdD A w (.sl s xs) (.val (.slice (some ⟨b, o, none⟩) n cap)) := by
  refine .sl s xs b o n cap hn hc hm fun i t ht => ?_
  have hi : i < xs.length := by
    rcases Nat.lt_or_ge i xs.length with h | h
    · exact h
    · rw [List.getElem?_eq_none h] at ht; cases ht
  have hle : i * s + s ≤ vs.length := by
    rw [h.len]
    calc i * s + s = (i + 1) * s := by rw [Nat.succ_mul]
      _ ≤ xs.length * s := Nat.mul_le_mul_right _ hi
  have e := h.el i t ht
  have := e.at_ (b := b) (o := o + i * s) (fun j v hv => by
    rw [List.getElem?_take] at hv
    split at hv
    · rw [List.getElem?_drop] at hv
      have := hp _ v hv
      rwa [← Nat.add_assoc] at this
    · cases hv)
  rwa [List.length_take, List.length_drop, Nat.min_eq_left (by omega)] at this
end Go.Proofs.YteafcknljhglkaaDoor.TL
