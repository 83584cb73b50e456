/-
  Appending over tree values: the model's append, and what it leaves.
-/
import Derived.Test.YteafcknljhglkaaDoorTlI
set_option linter.unusedVariables false
set_option linter.unusedSimpArgs false
namespace Go.Proofs.YteafcknljhglkaaDoor.TL
open Go.RowKit

theorem run_append_fits {P : Program} {w : World} {t u ty e : TypeId} {i j iu : TI} (ht : TyIs P t i) (hd : i.desc = .slice e) (hj : TyIs P e j) (hu : TyIs P u iu) (hnu : ∀ k, iu.desc ≠ .int k)
    (base : Option Addr) (n cap : Nat) (x : Value) (m : Nat) (news : List Value) (hlen : ∀ w2, (Builtin.lenOf x).run P w2 = .ok m w2) (hfirst : (Builtin.firstCells j.size m x).run P w = .ok news.toArray w) (hle : n + m ≤ cap) :
    (Builtin.append_ #[t, u] ty #[.slice base n cap, x]).run P w = ((match base with | some a => storeCells (a.add (n * j.size)) news | none => pure () : Sem Unit).run P w).andThen fun _ w' => .ok (.slice base (n + m) cap) w' := by
  have hz : (match iu.desc with | .int _ => true | _ => false) = false := by
    cases hh : iu.desc <;> first | rfl | exact absurd hh (hnu _)
  unfold Builtin.append_
  simp only [List.getElem?_toArray, List.getElem?_cons_zero, List.getElem?_cons_succ, Sem.run_bind, ht.run_und, Result.andThen_ok, hd, hj.run_size, hu.run_und, Sem.run_pure, hz, Bool.false_eq_true, if_false, hlen, Bool.not_false, if_true]
  rw [if_pos hle]
  simp only [Sem.run_bind, hfirst, Result.andThen_ok]
  cases base <;> simp

theorem run_append_grows {P : Program} {w : World} {t u ty e : TypeId} {i j iu : TI} (ht : TyIs P t i) (hd : i.desc = .slice e) (hj : TyIs P e j) (hu : TyIs P u iu) (hnu : ∀ k, iu.desc ≠ .int k)
    (base : Option Addr) (n cap : Nat) (x : Value) (m : Nat) (olds news : List Value) (hlen : ∀ w2, (Builtin.lenOf x).run P w2 = .ok m w2) (hfirst : (Builtin.firstCells j.size m x).run P w.drew = .ok news.toArray w.drew)
    (hold : (Builtin.firstCells j.size n (.slice base n cap)).run P w.drew = .ok olds.toArray w.drew) (hg : ¬ n + m ≤ cap) (h63 : ((n + m : Nat) : Int) ≤ 9223372036854775807) (hfit : Builtin.nextslicecap (n + m) cap * j.bytes ≤ 281474976710656) :
    (Builtin.append_ #[t, u] ty #[.slice base n cap, x]).run P w =
      .ok (.slice (some ⟨w.heap.size, 0, none⟩) (n + m) (grownCap w (n + m) cap e)) (w.drew.alloc (.cells (olds.toArray ++ news.toArray ++ Builtin.zeroCells j.zero.cells (grownCap w (n + m) cap e - (n + m))) e)) := by
  have hz : (match iu.desc with | .int _ => true | _ => false) = false := by
    cases hh : iu.desc <;> first | rfl | exact absurd hh (hnu _)
  obtain ⟨inf, hi, _, hb, _⟩ := hj.inf
  unfold Builtin.append_
  simp only [List.getElem?_toArray, List.getElem?_cons_zero, List.getElem?_cons_succ, Sem.run_bind, ht.run_und, Result.andThen_ok, hd, hj.run_size, hu.run_und, Sem.run_pure, hz, Bool.false_eq_true, if_false, hlen, Bool.not_false, if_true]
  rw [if_neg hg]
  have h1 : ¬ (((n + m : Nat) : Int) > IntKind.i64.max) := by
    have : IntKind.i64.max = 9223372036854775807 := rfl
    omega
  simp only [Sem.run_bind, run_typeInfo' hi, Result.andThen_ok, hb, Bool.false_eq_true, false_or]
  rw [if_neg (by intro hh; exact h1 hh.1)]
  simp only [Sem.run_bind, run_typeInfo' hi, Result.andThen_ok, hb]
  rw [if_neg (by omega)]
  simp only [Sem.run_bind, Sem.run_pure, Result.andThen_ok, run_choose, Question.forced, Bool.false_eq_true, if_false, run_askRoom, run_typeInfo' hi, World.drew_eq, hold, hfirst, hj.run_zero, newRow, run_newObj, World.alloc_eq, grownCap]
  rfl

theorem grown_ge (w : World) (need old e : Nat) : need ≤ grownCap w need old e := grownCap_ge w need old e

/-- In place: cells behind a row's end are written; the row ends further on. -/
theorem Rel.extend {w0 : World} {c : Cx} {S : TS} {w : World} (h : Rel w0 c S w) {k b e z m : Nat} (hk : S.objs k = .lin) (hγ : c.γ k = some (b, e, z)) (vs : List Value) (hm : vs.length = m) (hz : e + m ≤ z)
    (h1 : ∀ v ∈ vs, v.oneCell' = true) {P : Program} :
    ∃ c' w', (storeCells ⟨b, e, none⟩ vs).run P w = .ok () w' ∧ Rel w0 c' ((S.set k .gone).push .lin) w' ∧ Mono c w c' w' ∧ c'.γ S.n = some (b, e + m, z) ∧
      (∀ (j : Nat) v, vs[j]? = some v → w'.cell? ⟨b, e + j, none⟩ = some v ∧ c'.A b (e + j)) := by
  have hkn := h.dom _ _ hγ
  have hob := h.obj k hkn
  rw [hk] at hob
  obtain ⟨g1, ⟨cs, t, fr, g2, g3⟩, g4, g5⟩ := hob b (e, z) hγ
  simp only at g3 g4 g5
  have hcellE : ∀ j, j < z → (w.cell? ⟨b, j, none⟩).isSome = true := by
    intro j hj
    simp [World.cell?, g2]
    omega
  have hrun := run_storeCells_cells (P := P) b e vs 0 w (fun j hj => by rw [Nat.add_zero]; exact hcellE _ (by omega)) (fun j hj => by rw [Nat.add_zero]; exact g4 _ (by omega) (by omega)) h1
  rw [Nat.add_zero] at hrun
  have hin := World.cell?_setCells_in b vs e w (fun j hj => hcellE _ (by omega))
  have hout := World.cell?_setCells_out b vs e w
  have hfro := World.frozen?_setCells b vs e w
  have hheap : ∀ (vs : List Value) (o : Nat) (w : World), (∀ i, i ≠ b → (w.setCells b o vs).heap[i]? = w.heap[i]?) ∧ (w.setCells b o vs).heap.size = w.heap.size ∧ (w.setCells b o vs).os = w.os ∧ (w.setCells b o vs).tape = w.tape ∧ (w.setCells b o vs).output = w.output ∧
      (∀ cs t fr, w.heap[b]? = some (.cells cs t fr) → ∃ cs', (w.setCells b o vs).heap[b]? = some (.cells cs' t fr) ∧ cs'.size = cs.size) := by
    intro vs
    induction vs with
    | nil => intro o w; exact ⟨fun _ _ => rfl, rfl, rfl, rfl, rfl, fun cs t fr h => ⟨cs, h, rfl⟩⟩
    | cons v vs ih =>
      intro o w
      simp only [World.setCells]
      obtain ⟨a1, a2, a3, a4, a5, a6⟩ := ih (o + 1) (w.setCell ⟨b, o, none⟩ v)
      refine ⟨fun i hi => by rw [a1 i hi]; exact Below.heap_setCell w _ _ i hi, by rw [a2]; simp, a3, a4, a5, fun cs t fr hcs => ?_⟩
      obtain ⟨cs', b1, b2⟩ := a6 (cs.setIfInBounds o v) t fr (by simp [World.setCell, Array.getElem?_modify, hcs])
      exact ⟨cs', b1, by rw [b2]; simp⟩
  obtain ⟨a1, a2, a3, a4, a5, a6⟩ := hheap vs e w
  let w' := w.setCells b e vs
  let c' : Cx := { A := fun b' j => c.A b' j ∨ (b' = b ∧ e ≤ j ∧ j < e + m), γ := fun i => if i = S.n then some (b, e + m, z) else c.γ i, n := S.n + 1 }
  have hnot : ∀ j, c.A b j → j < e := fun j ha => by
    rcases Nat.lt_or_ge j e with h' | h'
    · exact h'
    · exact absurd ha (g5 j h')
  have hcellA : ∀ b' j, c.A b' j → w'.cell? ⟨b', j, none⟩ = w.cell? ⟨b', j, none⟩ := by
    intro b' j ha
    refine hout ⟨b', j, none⟩ (fun hb _ => ?_)
    simp only at hb
    subst hb
    exact .inl (hnot j ha)
  have mm : Mono c w c' w' := ⟨fun _ _ ha => .inl ha, hcellA, fun id x hx => by
    have := h.dom id x hx
    show (if id = S.n then _ else _) = _
    rw [if_neg (by omega)]; exact hx, by have := h.cn; show c.n ≤ S.n + 1; omega⟩
  have hval : ∀ (j : Nat) v, vs[j]? = some v → w'.cell? ⟨b, e + j, none⟩ = some v ∧ c'.A b (e + j) := by
    intro j v hv
    have hj : j < vs.length := by
      rcases Nat.lt_or_ge j vs.length with h | h
      · exact h
      · rw [List.getElem?_eq_none h] at hv; cases hv
    rw [List.getElem?_eq_getElem hj] at hv
    injection hv with hv
    exact ⟨by rw [← hv]; exact hin j hj, .inr ⟨rfl, by omega, by omega⟩⟩
  refine ⟨c', w', hrun, ⟨?_, ?_, ?_, ?_, ?_, ?_, rfl⟩, mm, if_pos rfl, hval⟩
  · exact h.below.trans ⟨a3, a4, a5, Nat.le_of_eq a2.symm, fun i hi => a1 i (by omega)⟩
  · intro id x hx
    show id < S.n + 1
    by_cases hi : id = S.n
    · omega
    · have : c.γ id = some x := by simpa [c', hi] using hx
      have := h.dom id x this; omega
  · intro id hid
    have hid' : id < S.n + 1 := hid
    rw [TS.push_objs, TS.set_n]
    by_cases hi : id = S.n
    · rw [if_pos hi]
      subst hi
      intro b' e' hb'
      have : some (b, e + m, z) = some (b', e') := by rw [← hb']; exact (if_pos rfl).symm
      injection this with this; injection this with t1 t2; subst t1 t2
      obtain ⟨cs', f1, f2⟩ := a6 cs t fr g2
      refine ⟨g1, ⟨cs', t, fr, f1, by simp only; omega⟩, fun j hj hj2 => ?_, fun j hj ha => ?_⟩
      · simp only at hj hj2
        rw [hfro]; exact g4 j (by omega) hj2
      · simp only at hj
        rcases ha with ha | ⟨_, _, ha⟩
        · exact absurd ha (g5 j (by omega))
        · omega
    · rw [if_neg hi, TS.set_objs]
      by_cases hik : id = k
      · rw [if_pos hik]; trivial
      · rw [if_neg hik]
        refine (h.obj id (by omega)).keep mm (by simp [c', hi]) ?_
        intro hl b' e' hb'
        have hbb : b' ≠ b := by
          intro hbb; subst hbb
          exact hik (h.inj id k b' e' (e, z) (by omega) hkn hl (by rw [hk]; rfl) hb' hγ)
        refine ⟨a1 b' hbb, ?_⟩
        rintro j (ha | ⟨hb2, _⟩)
        · exact ha
        · exact absurd hb2 hbb
  · intro i j b1 e1 e2 hi hj li lj gi gj
    have hi' : i < S.n + 1 := hi
    have hj' : j < S.n + 1 := hj
    rw [TS.push_objs, TS.set_n] at li lj
    by_cases hin' : i = S.n
    · by_cases hjn : j = S.n
      · omega
      · rw [if_neg hjn, TS.set_objs] at lj
        have gi' : b = b1 := by
          have : some (b, e + m, z) = some (b1, e1) := by rw [← gi, hin']; exact (if_pos rfl).symm
          injection this with this; injection this
        have gj' : c.γ j = some (b1, e2) := by simpa [c', hjn] using gj
        by_cases hjk : j = k
        · rw [if_pos hjk] at lj; cases lj
        · rw [if_neg hjk] at lj
          subst gi'
          exact absurd (h.inj j k b e2 (e, z) (by omega) hkn lj (by rw [hk]; rfl) gj' hγ) hjk
    · rw [if_neg hin', TS.set_objs] at li
      have gi' : c.γ i = some (b1, e1) := by simpa [c', hin'] using gi
      by_cases hik : i = k
      · rw [if_pos hik] at li; cases li
      · rw [if_neg hik] at li
        by_cases hjn : j = S.n
        · have gj' : b = b1 := by
            have : some (b, e + m, z) = some (b1, e2) := by rw [← gj, hjn]; exact (if_pos rfl).symm
            injection this with this; injection this
          subst gj'
          exact absurd (h.inj i k b e1 (e, z) (by omega) hkn li (by rw [hk]; rfl) gi' hγ) hik
        · rw [if_neg hjn, TS.set_objs] at lj
          have gj' : c.γ j = some (b1, e2) := by simpa [c', hjn] using gj
          by_cases hjk : j = k
          · rw [if_pos hjk] at lj; cases lj
          · rw [if_neg hjk] at lj
            exact h.inj i j b1 e1 e2 (by omega) (by omega) li lj gi' gj'
  · rintro b' j (ha | ⟨rfl, hj1, hj2⟩)
    · obtain ⟨v, hv⟩ := h.cell b' j ha
      exact ⟨v, (hcellA b' j ha).trans hv⟩
    · have hj : j - e < vs.length := by omega
      have := (hval (j - e) _ (List.getElem?_eq_getElem hj)).1
      rw [show e + (j - e) = j by omega] at this
      exact ⟨_, this⟩
  · intro id hid
    have hid' : S.n + 1 ≤ id := hid
    rw [TS.push_objs, TS.set_n, if_neg (by omega), TS.set_objs, if_neg (by omega)]
    exact h.wf id (by omega)

/-- A row of which nothing is known to lie anywhere. -/
theorem Rel.virtual {w0 : World} {c : Cx} {S : TS} {w : World} (h : Rel w0 c S w) : ∃ c', Rel w0 c' (S.push .lin) w ∧ Mono c w c' w ∧ c'.γ S.n = none := by
  have hn : c.γ S.n = none := by
    cases hg : c.γ S.n with
    | none => rfl
    | some x => have := h.dom _ _ hg; omega
  have m : Mono c w { c with n := S.n + 1 } w := ⟨fun _ _ h => h, fun _ _ _ => rfl, fun _ _ h => h, by have := h.cn; show c.n ≤ S.n + 1; omega⟩
  refine ⟨{ c with n := S.n + 1 }, ⟨h.below, fun id x hx => by have := h.dom id x hx; show id < S.n + 1; omega, ?_, ?_, h.cell, ?_, rfl⟩, m, hn⟩
  · intro id hid
    have hid' : id < S.n + 1 := hid
    rw [TS.push_objs]
    by_cases hi : id = S.n
    · rw [if_pos hi]; intro b e hb; rw [hi] at hb; rw [show ({ c with n := S.n + 1 } : Cx).γ S.n = none from hn] at hb; cases hb
    · rw [if_neg hi]; exact (h.obj id (by omega)).keep m rfl (fun _ b e _ => ⟨rfl, fun _ h => h⟩)
  · intro i j b e1 e2 hi hj li lj gi gj
    have h1 := h.dom _ _ gi
    have h2 := h.dom _ _ gj
    rw [TS.push_objs, if_neg (by omega)] at li
    rw [TS.push_objs, if_neg (by omega)] at lj
    exact h.inj i j b e1 e2 h1 h2 li lj gi gj
  · intro id hid
    have hid' : S.n + 1 ≤ id := hid
    rw [TS.push_objs, if_neg (by omega)]
    exact h.wf id (by omega)
end Go.Proofs.YteafcknljhglkaaDoor.TL
