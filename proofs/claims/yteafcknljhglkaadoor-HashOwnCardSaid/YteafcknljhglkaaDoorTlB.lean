/-
  How the relation between an abstract state and a world goes on behind a new block, a store, an append.
-/
import Derived.Test.YteafcknljhglkaaDoorTlA
set_option linter.unusedVariables false
set_option linter.unusedSimpArgs false
namespace Go.Proofs.YteafcknljhglkaaDoor.TL
open Go.RowKit

@[simp] theorem TS.set_n (S : TS) (id : Nat) (o : TObj) : (S.set id o).n = S.n := rfl
@[simp] theorem TS.push_n (S : TS) (o : TObj) : (S.push o).n = S.n + 1 := rfl
theorem TS.set_objs (S : TS) (id : Nat) (o : TObj) (i : Nat) : (S.set id o).objs i = if i = id then o else S.objs i := rfl
theorem TS.push_objs (S : TS) (o : TObj) (i : Nat) : (S.push o).objs i = if i = S.n then o else S.objs i := rfl

/-- An object whose block hasn't been touched. -/
theorem ObjOk.keep {w0 : World} {c c' : Cx} {w w' : World} {id : Nat} {o : TObj} (h : ObjOk w0 c w id o) (m : Mono c w c' w')
    (hγ : c'.γ id = c.γ id) (hb : o.live = true → ∀ b e, c.γ id = some (b, e) → w'.heap[b]? = w.heap[b]? ∧ ∀ j, c'.A b j → c.A b j) : ObjOk w0 c' w' id o := by
  cases o with
  | gone => trivial
  | lin =>
    intro b e hbe
    rw [hγ] at hbe
    obtain ⟨h1, ⟨cs, t, fr, h2, hz⟩, h3, h4⟩ := h b e hbe
    obtain ⟨k1, k2⟩ := hb rfl b e hbe
    refine ⟨h1, ⟨cs, t, fr, by rw [k1, h2], hz⟩, fun j hj hj2 => ?_, fun j hj ha => h4 j hj (k2 j ha)⟩
    rw [World.frozen?_of_block (w := w) (w' := w') (a := ⟨b, j, none⟩) k1]; exact h3 j hj hj2
  | cells t cs =>
    refine ⟨fun hn => h.1 (by rw [← hγ]; exact hn), fun b e h1 => ?_⟩
    rw [hγ] at h1
    obtain ⟨h2, ⟨arr, fr, h3, hz⟩, hf, h4, h5⟩ := h.2 b e h1
    obtain ⟨k1, k2⟩ := hb rfl b e h1
    refine ⟨h2, ⟨arr, fr, k1.trans h3, hz⟩, fun j => by rw [World.frozen?_of_block (w := w) (w' := w') (a := ⟨b, j, none⟩) k1]; exact hf j, fun j x hx => ?_, fun j ha => h5 j (k2 j ha)⟩
    obtain ⟨v, p, r⟩ := h4 j x hx
    exact ⟨v, by rw [World.cell?_of_block (w := w) (w' := w') (a := ⟨b, e.1 + j, none⟩) k1]; exact p, r.step m⟩
  | map es =>
    obtain ⟨b, e, h1, h2, ents, clock, h3, h4, h5⟩ := h
    obtain ⟨k1, _⟩ := hb rfl b e h1
    exact ⟨b, e, hγ.trans h1, h2, ents, clock, k1.trans h3, h4, fun j x mm hx hm => ⟨(h5 j x mm hx hm).1, (h5 j x mm hx hm).2.step m⟩⟩

/-- A draw changes nothing. -/
theorem Rel.drew {w0 : World} {c : Cx} {S : TS} {w : World} (h : Rel w0 c S w) : Rel w0 c S w.drew ∧ Mono c w c w.drew := by
  have m : Mono c w c w.drew := ⟨fun _ _ h => h, fun _ _ _ => rfl, fun _ _ h => h, Nat.le_refl _⟩
  exact ⟨⟨h.below.drew, h.dom, fun id hid => (h.obj id hid).keep m rfl (fun _ b e _ => ⟨rfl, fun _ h => h⟩), h.inj, h.cell, h.wf, h.cn⟩, m⟩


theorem Rel.fresh {w0 : World} {c : Cx} {S : TS} {w : World} (h : Rel w0 c S w) {id b : Nat} {e : Nat × Nat} (hid : c.γ id = some (b, e)) (hl : (S.objs id).live = true) : b < w.heap.size := by
  have hn := h.dom id _ hid
  have ho := h.obj id hn
  cases hobj : S.objs id with
  | gone => rw [hobj] at hl; cases hl
  | lin =>
    rw [hobj] at ho
    obtain ⟨_, ⟨cs, t, fr, hh, _⟩, _⟩ := ho b e hid
    exact (Array.getElem?_eq_some_iff.1 hh).1
  | cells t cs =>
    rw [hobj] at ho
    obtain ⟨_, ⟨arr, fr, hh, _⟩, _⟩ := ho.2 b e hid
    exact (Array.getElem?_eq_some_iff.1 hh).1
  | map es =>
    rw [hobj] at ho
    obtain ⟨b', e', h1, _, ents, clock, hh, _⟩ := ho
    rw [hid] at h1
    injection h1 with h1; injection h1 with h1 _; subst h1
    exact (Array.getElem?_eq_some_iff.1 hh).1

/-- A new block that becomes object number S.n (cells, a map, a row), some of whose cells may be fixed at once. -/
theorem Rel.alloc {w0 : World} {c : Cx} {S : TS} {w : World} (h : Rel w0 c S w) (blk : Obj) (o : TObj) (e : Nat × Nat) (F : Nat → Prop)
    (hF : ∀ j, F j → ∃ v, (w.alloc blk).cell? ⟨w.heap.size, j, none⟩ = some v)
    (ho : ∀ c', Mono c w c' (w.alloc blk) → c'.γ S.n = some (w.heap.size, e) → (∀ j, c'.A w.heap.size j ↔ F j) → ObjOk w0 c' (w.alloc blk) S.n o) :
    ∃ c', Rel w0 c' (S.push o) (w.alloc blk) ∧ Mono c w c' (w.alloc blk) ∧ c'.γ S.n = some (w.heap.size, e) ∧ (∀ j, c'.A w.heap.size j ↔ F j) := by
  let c' : Cx := { A := fun b j => c.A b j ∨ (b = w.heap.size ∧ F j), γ := fun i => if i = S.n then some (w.heap.size, e) else c.γ i, n := S.n + 1 }
  have hlt : ∀ b j, c.A b j → b < w.heap.size := fun b j ha => h.alt ha
  have m : Mono c w c' (w.alloc blk) := by
    refine ⟨fun b j ha => .inl ha, fun b j ha => World.cell?_alloc_lt w blk ⟨b, j, none⟩ (hlt b j ha), fun id x hx => ?_, by have := h.cn; show c.n ≤ S.n + 1; omega⟩
    have := h.dom id x hx
    show (if id = S.n then _ else _) = _
    rw [if_neg (by omega)]; exact hx
  have hγ : c'.γ S.n = some (w.heap.size, e) := if_pos rfl
  have hAF : ∀ j, c'.A w.heap.size j ↔ F j := by
    intro j
    constructor
    · rintro (ha | ⟨_, hf⟩)
      · exact absurd (hlt _ _ ha) (by omega)
      · exact hf
    · exact fun hf => .inr ⟨rfl, hf⟩
  refine ⟨c', ⟨h.below.alloc h.le blk, ?_, ?_, ?_, ?_, fun id hid => by rw [TS.push_objs, if_neg (by have : S.n + 1 ≤ id := hid; omega)]; exact h.wf id (by have : S.n + 1 ≤ id := hid; omega), rfl⟩, m, hγ, hAF⟩
  · intro id x hx
    show id < S.n + 1
    by_cases hi : id = S.n
    · omega
    · have : c.γ id = some x := by simpa [c', hi] using hx
      have := h.dom id x this; omega
  · intro id hid
    rw [TS.push_objs]
    by_cases hi : id = S.n
    · rw [if_pos hi, hi]; exact ho c' m hγ hAF
    · rw [if_neg hi]
      have hid' : id < S.n := by have : id < S.n + 1 := hid; omega
      refine (h.obj id hid').keep m (by simp [c', hi]) ?_
      intro hl b e' hb
      have hbl := h.fresh hb hl
      refine ⟨Below.heap_alloc w blk b hbl, ?_⟩
      rintro j (ha | ⟨hb', _⟩)
      · exact ha
      · omega
  · intro i j b e1 e2 hi hj li lj gi gj
    rw [TS.push_objs] at li lj
    by_cases hi' : i = S.n
    · by_cases hj' : j = S.n
      · omega
      · rw [if_neg hj'] at lj
        have g1 : w.heap.size = b := by
          have : some (w.heap.size, e) = some (b, e1) := by rw [← gi, hi', hγ]
          injection this with this; injection this
        have gj' : c.γ j = some (b, e2) := by simpa [c', hj'] using gj
        have := h.fresh gj' lj
        omega
    · rw [if_neg hi'] at li
      have gi' : c.γ i = some (b, e1) := by simpa [c', hi'] using gi
      have hb := h.fresh gi' li
      by_cases hj' : j = S.n
      · have : some (w.heap.size, e) = some (b, e2) := by rw [← gj, hj', hγ]
        injection this with this; injection this with this _
        omega
      · rw [if_neg hj'] at lj
        have gj' : c.γ j = some (b, e2) := by simpa [c', hj'] using gj
        have hi2 : i < S.n + 1 := hi
        have hj2 : j < S.n + 1 := hj
        exact h.inj i j b e1 e2 (by omega) (by omega) li lj gi' gj'
  · rintro b j (ha | ⟨rfl, hf⟩)
    · obtain ⟨v, hv⟩ := h.cell b j ha
      exact ⟨v, (World.cell?_alloc_lt w blk ⟨b, j, none⟩ (hlt b j ha)).trans hv⟩
    · exact hF j hf

/-- A new block that is no object: cells that are fixed at once. -/
theorem Rel.allocFixed {w0 : World} {c : Cx} {S : TS} {w : World} (h : Rel w0 c S w) (blk : Obj) (F : Nat → Prop)
    (hF : ∀ j, F j → ∃ v, (w.alloc blk).cell? ⟨w.heap.size, j, none⟩ = some v) :
    ∃ c', Rel w0 c' S (w.alloc blk) ∧ Mono c w c' (w.alloc blk) ∧ (∀ j, c'.A w.heap.size j ↔ F j) ∧ c'.γ = c.γ := by
  let c' : Cx := { A := fun b j => c.A b j ∨ (b = w.heap.size ∧ F j), γ := c.γ, n := c.n }
  have hlt : ∀ b j, c.A b j → b < w.heap.size := fun b j ha => h.alt ha
  have m : Mono c w c' (w.alloc blk) :=
    ⟨fun b j ha => .inl ha, fun b j ha => World.cell?_alloc_lt w blk ⟨b, j, none⟩ (hlt b j ha), fun id x hx => hx, Nat.le_refl _⟩
  have hAF : ∀ j, c'.A w.heap.size j ↔ F j := by
    intro j
    constructor
    · rintro (ha | ⟨_, hf⟩)
      · exact absurd (hlt _ _ ha) (by omega)
      · exact hf
    · exact fun hf => .inr ⟨rfl, hf⟩
  refine ⟨c', ⟨h.below.alloc h.le blk, h.dom, ?_, h.inj, ?_, h.wf, h.cn⟩, m, hAF, rfl⟩
  · intro id hid
    refine (h.obj id hid).keep m rfl ?_
    intro hl b e' hb
    have hbl := h.fresh hb hl
    refine ⟨Below.heap_alloc w blk b hbl, ?_⟩
    rintro j (ha | ⟨hb', _⟩)
    · exact ha
    · omega
  · rintro b j (ha | ⟨rfl, hf⟩)
    · obtain ⟨v, hv⟩ := h.cell b j ha
      exact ⟨v, (World.cell?_alloc_lt w blk ⟨b, j, none⟩ (hlt b j ha)).trans hv⟩
    · exact hF j hf

/-- One object's block is changed (none of its fixed cells), and with it the object. -/
theorem Rel.change {w0 : World} {c : Cx} {S : TS} {w w' : World} (h : Rel w0 c S w) (id : Nat) (o : TObj) (b : Nat) (e : Nat × Nat)
    (hid : id < S.n) (hg : c.γ id = some (b, e)) (hl : (S.objs id).live = true) (hb : w0.heap.size ≤ b)
    (hs : w'.heap.size = w.heap.size) (hr : w'.os = w.os ∧ w'.tape = w.tape ∧ w'.output = w.output)
    (hw : ∀ k, k ≠ b → w'.heap[k]? = w.heap[k]?)
    (hA : ∀ j, c.A b j → w'.cell? ⟨b, j, none⟩ = w.cell? ⟨b, j, none⟩)
    (ho : Mono c w c w' → ObjOk w0 c w' id o) : Rel w0 c (S.set id o) w' ∧ Mono c w c w' := by
  have m : Mono c w c w' := by
    refine ⟨fun _ _ h => h, fun b' j ha => ?_, fun _ _ h => h, Nat.le_refl _⟩
    by_cases hbb : b' = b
    · subst hbb; exact hA j ha
    · exact World.cell?_of_block (w := w) (w' := w') (a := ⟨b', j, none⟩) (hw b' hbb)
  refine ⟨⟨?_, h.dom, ?_, ?_, ?_, fun i hi => by rw [TS.set_objs, if_neg (by have : S.n ≤ i := hi; omega)]; exact h.wf i hi, h.cn⟩, m⟩
  · exact h.below.trans ⟨hr.1, hr.2.1, hr.2.2, by omega, fun k hk => hw k (by omega)⟩
  · intro i hi
    rw [TS.set_objs]
    by_cases hii : i = id
    · rw [if_pos hii, hii]; exact ho m
    · rw [if_neg hii]
      refine (h.obj i hi).keep m rfl ?_
      intro hli b' e' hb'
      refine ⟨hw b' ?_, fun _ h => h⟩
      intro hbb
      subst hbb
      exact hii (h.inj i id b' e' e hi hid hli hl hb' hg)
  · intro i j b1 e1 e2 hi hj li lj gi gj
    rw [TS.set_objs] at li lj
    refine h.inj i j b1 e1 e2 hi hj ?_ ?_ gi gj
    · by_cases hii : i = id
      · rw [hii]; exact hl
      · rw [if_neg hii] at li; exact li
    · by_cases hjj : j = id
      · rw [hjj]; exact hl
      · rw [if_neg hjj] at lj; exact lj
  · intro b' j ha
    obtain ⟨v, hv⟩ := h.cell b' j ha
    exact ⟨v, (m.cell b' j ha).trans hv⟩

theorem Rel.roomOf {w0 : World} {c : Cx} {S : TS} {w : World} (h : Rel w0 c S w) {id b t n : Nat} {e : Nat × Nat} {cs : List TV} (hobj : S.objs id = .cells t cs) (hγ : c.γ id = some (b, e)) (hn : n ≤ cs.length) : e.1 + n ≤ e.2 := by
  have hob := h.obj id (h.dom _ _ hγ)
  rw [hobj] at hob
  obtain ⟨_, ⟨arr, fr, g1, g2, g3⟩, _⟩ := hob.2 b e hγ
  omega

/-- An object is forgotten. -/
theorem Rel.drop {w0 : World} {c : Cx} {S : TS} {w : World} (h : Rel w0 c S w) (id : Nat) : Rel w0 c (S.set id .gone) w := by
  refine ⟨h.below, h.dom, ?_, ?_, h.cell, fun i hi => by
    rw [TS.set_objs]
    split
    · rfl
    · exact h.wf i hi, h.cn⟩
  · intro i hi
    rw [TS.set_objs]
    by_cases hii : i = id
    · rw [if_pos hii]; trivial
    · rw [if_neg hii]; exact h.obj i hi
  · intro i j b1 e1 e2 hi hj li lj gi gj
    rw [TS.set_objs] at li lj
    have hi' : i ≠ id := by intro hh; rw [if_pos hh] at li; cases li
    have hj' : j ≠ id := by intro hh; rw [if_pos hh] at lj; cases lj
    rw [if_neg hi'] at li
    rw [if_neg hj'] at lj
    exact h.inj i j b1 e1 e2 hi hj li lj gi gj
end Go.Proofs.YteafcknljhglkaaDoor.TL
