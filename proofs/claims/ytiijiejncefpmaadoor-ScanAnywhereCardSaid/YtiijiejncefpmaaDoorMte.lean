/-
  What bytes refer to: spots, finds, and laws on them.
-/
import Derived.Test.YtiijiejncefpmaaDoorMtd
import Derived.Sort.Grow
import Derived.Shelf.Sort.Plain
import Derived.Shelf.Slices.CompactS
import Derived.Shelf.Slices.In.SortNone
import Derived.Test.YtiijiejncefpmaaDoorProg
import Derived.Sort.Walk0
import Derived.Lib.RowBridge
set_option linter.unusedVariables false
set_option linter.unusedSimpArgs false
namespace Go.Proofs.YtiijiejncefpmaaDoor.TL
open Go.RowKit Go.MapKept

/-- A kind of keys: how they stand in a map. -/
structure KK (α : Type) where
  v : α → Value
  d : TypeDesc
  key : ∀ a, isKeyB d (v a) = true
  eq : ∀ a b, keyEq (v a) (v b) = true ↔ a = b
def kS : KK Bs := ⟨fun s => .string (st s), .string, fun _ => rfl, fun a b => by
  show (st a == st b) = true ↔ a = b
  rw [← st_inj (a := a)]
  exact ⟨fun h => by simpa [bytes_beq] using h, fun h => by rw [h]; simp [bytes_beq]⟩⟩
def kI : KK Int := ⟨fun n => .int .i64 n, .int .i64, fun _ => rfl, fun a b => by
  show (a == b) = true ↔ a = b
  exact beq_iff_eq⟩

section
variable {α : Type} (κ : KK α)
/-- What a map holds at a key. -/
def getM (es : Ents) (a : α) : Option TV := (findT (κ.v a) es).map (valAt es)
/-- A map whose keys are such, each once. -/
structure MapOk (es : Ents) (clock : Nat) (l : List α) : Prop where
  keys : es.map (·.1) = l.map κ.v
  nd : l.Nodup
  born : ∀ e ∈ es, e.2.1 < clock
  bnd : (es.map (·.2.1)).Nodup

theorem getM_nil (a : α) : getM κ [] a = none := rfl
theorem look_get (es : Ents) (a : α) (z : TV) : lookT (κ.v a) es z = (getM κ es a).getD z := by
  unfold lookT getM
  cases findT (κ.v a) es <;> rfl
theorem found_get (es : Ents) (a : α) : (findT (κ.v a) es).isSome = (getM κ es a).isSome := by
  unfold getM
  cases findT (κ.v a) es <;> rfl
theorem findT_some {es : Ents} {k : Value} {j : Nat} : findT k es = some j ↔ ∃ h : j < es.length, keyEq k es[j].1 = true ∧ ∀ i, (hi : i < j) → keyEq k (es[i]'(by omega)).1 = false := by
  unfold findT
  rw [List.findIdx?_eq_some_iff_getElem]
  constructor
  · rintro ⟨h1, h2, h3⟩
    exact ⟨h1, h2, fun i hi => by have := h3 i hi; simpa using this⟩
  · rintro ⟨h1, h2, h3⟩
    exact ⟨h1, h2, fun i hi => by have := h3 i hi; simpa using this⟩
variable {κ} {es : Ents} {clock : Nat} {l : List α}
theorem MapOk.len (h : MapOk κ es clock l) : es.length = l.length := by have := congrArg List.length h.keys; simpa using this
theorem MapOk.ok (h : MapOk κ es clock l) : keysOk κ.d es = true := by
  unfold keysOk
  rw [List.all_eq_true]
  intro e he
  have : e.1 ∈ l.map κ.v := by rw [← h.keys]; exact List.mem_map.2 ⟨e, he, rfl⟩
  obtain ⟨a, _, ha⟩ := List.mem_map.1 this
  rw [← ha]; exact κ.key a
theorem MapOk.at_ (h : MapOk κ es clock l) {j : Nat} (hj : j < es.length) : es[j].1 = κ.v (l[j]'(by rw [← h.len]; exact hj)) := by
  have h1 : (es.map (·.1))[j]? = (l.map κ.v)[j]? := by rw [h.keys]
  rw [List.getElem?_map, List.getElem?_map, List.getElem?_eq_getElem hj, List.getElem?_eq_getElem (by rw [← h.len]; exact hj)] at h1
  simpa using h1
theorem MapOk.find (h : MapOk κ es clock l) {a : α} {j : Nat} : findT (κ.v a) es = some j ↔ l[j]? = some a := by
  rw [findT_some]
  constructor
  · rintro ⟨h1, h2, _⟩
    rw [h.at_ h1, κ.eq] at h2
    rw [List.getElem?_eq_getElem (by rw [← h.len]; exact h1), h2]
  · intro hj
    obtain ⟨h1, h2⟩ := List.getElem?_eq_some_iff.1 hj
    have hl : j < es.length := by rw [h.len]; exact h1
    refine ⟨hl, by rw [h.at_ hl, h2]; exact (κ.eq a a).2 rfl, fun i hi => ?_⟩
    cases hk : keyEq (κ.v a) (es[i]'(by omega)).1 with
    | false => rfl
    | true =>
      rw [h.at_ (by omega), κ.eq] at hk
      have := (List.getElem_inj (h₀ := by omega) (h₁ := h1) h.nd).1 (hk.symm.trans h2.symm)
      omega
theorem MapOk.mem (h : MapOk κ es clock l) (a : α) : (getM κ es a).isSome = true ↔ a ∈ l := by
  unfold getM
  rw [Option.isSome_map, List.mem_iff_getElem?]
  constructor
  · intro hh
    obtain ⟨j, hj⟩ := Option.isSome_iff_exists.1 hh
    exact ⟨j, h.find.1 hj⟩
  · rintro ⟨j, hj⟩
    rw [h.find.2 hj]; rfl
theorem MapOk.nil : MapOk κ [] 0 [] := ⟨rfl, List.nodup_nil, (fun e h => by cases h), List.nodup_nil⟩
theorem MapOk.no (h : MapOk κ es clock l) {a : α} (ha : a ∉ l) : findT (κ.v a) es = none := by
  cases hf : findT (κ.v a) es with
  | none => rfl
  | some j => exact absurd (List.mem_of_getElem? (h.find.1 hf)) ha
theorem valAt_getD {es : Ents} {j : Nat} (hj : j < es.length) : valAt es j = es[j].2.2 := by simp [valAt, List.getElem?_eq_getElem hj]
/-- A key is put. -/
theorem MapOk.put_old (h : MapOk κ es clock l) {a : α} (ha : a ∈ l) (t : TV) : MapOk κ (putE (κ.v a) t es clock) (clkE (κ.v a) es clock) l := by
  obtain ⟨j, hj⟩ := List.mem_iff_getElem?.1 ha
  have hf := h.find.2 hj
  have hjl : j < es.length := findT_lt hf
  unfold putE clkE
  rw [hf]
  have hk : (es.modify j fun e => (κ.v a, e.2.1, t)).map (·.1) = es.map (·.1) := by
    apply List.ext_getElem?
    intro i
    rw [List.getElem?_map, List.getElem?_map, List.getElem?_modify]
    by_cases hij : j = i
    · subst hij
      rw [List.getElem?_eq_getElem hjl]
      have := h.at_ hjl
      obtain ⟨h1, h2⟩ := List.getElem?_eq_some_iff.1 hj
      simp [this, h2]
    · simp [hij]
  have hb : (es.modify j fun e => (κ.v a, e.2.1, t)).map (·.2.1) = es.map (·.2.1) := by
    apply List.ext_getElem?
    intro i
    rw [List.getElem?_map, List.getElem?_map, List.getElem?_modify]
    by_cases hij : j = i
    · subst hij; rw [List.getElem?_eq_getElem hjl]; simp
    · simp [hij]
  refine ⟨hk.trans h.keys, h.nd, fun e he => ?_, by rw [hb]; exact h.bnd⟩
  have : e.2.1 ∈ (es.modify j fun e => (κ.v a, e.2.1, t)).map (·.2.1) := List.mem_map.2 ⟨e, he, rfl⟩
  rw [hb] at this
  obtain ⟨e', he', hee⟩ := List.mem_map.1 this
  rw [← hee]; exact h.born e' he'
theorem MapOk.put_new (h : MapOk κ es clock l) {a : α} (ha : a ∉ l) (t : TV) : MapOk κ (putE (κ.v a) t es clock) (clkE (κ.v a) es clock) (l ++ [a]) := by
  unfold putE clkE
  rw [h.no ha]
  refine ⟨by simp [h.keys], by rw [List.nodup_append]; exact ⟨h.nd, by simp, fun x hx y hy => by simp at hy; subst hy; exact fun e => ha (by rw [← e]; exact hx)⟩, fun e he => ?_, ?_⟩
  · rcases List.mem_append.1 he with he | he
    · have := h.born e he; show e.2.1 < clock + 1; omega
    · simp at he; subst he; exact Nat.lt_succ_self _
  · show ((es ++ [(κ.v a, clock, t)]).map (·.2.1)).Nodup
    rw [List.map_append, List.nodup_append]
    refine ⟨h.bnd, by simp, fun x hx y hy => ?_⟩
    obtain ⟨e, he, rfl⟩ := List.mem_map.1 hx
    simp at hy; subst hy
    have := h.born e he
    omega
theorem MapOk.put (h : MapOk κ es clock l) [DecidableEq α] (a : α) (t : TV) : MapOk κ (putE (κ.v a) t es clock) (clkE (κ.v a) es clock) (if a ∈ l then l else l ++ [a]) := by
  split
  · rename_i ha; exact h.put_old ha t
  · rename_i ha; exact h.put_new ha t
theorem MapOk.get_put (h : MapOk κ es clock l) [DecidableEq α] (a b : α) (t : TV) : getM κ (putE (κ.v a) t es clock) b = if b = a then some t else getM κ es b := by
  unfold getM
  by_cases ha : a ∈ l
  · have hp := h.put_old ha t
    obtain ⟨j, hj⟩ := List.mem_iff_getElem?.1 ha
    have hf := h.find.2 hj
    have hjl : j < es.length := findT_lt hf
    have hval : ∀ i, i < es.length → valAt (putE (κ.v a) t es clock) i = if i = j then t else valAt es i := by
      intro i hi
      unfold putE valAt
      rw [hf]
      simp only [List.getElem?_modify]
      by_cases hij : j = i
      · subst hij; simp [List.getElem?_eq_getElem hjl]
      · have : ¬ i = j := fun e => hij e.symm
        simp [hij, this]
    cases hb : findT (κ.v b) es with
    | none =>
      have hbn : b ∉ l := fun hm => by
        obtain ⟨i, hi⟩ := List.mem_iff_getElem?.1 hm
        rw [h.find.2 hi] at hb; cases hb
      rw [hp.no hbn, if_neg (fun e => hbn (by rw [e]; exact ha))]; rfl
    | some i =>
      have hi := h.find.1 hb
      rw [hp.find.2 hi]
      simp only [Option.map_some]
      rw [hval i (findT_lt hb)]
      have h1 := (List.getElem?_eq_some_iff.1 hi)
      have h2 := (List.getElem?_eq_some_iff.1 hj)
      by_cases hba : b = a
      · subst hba
        have : i = j := (List.getElem_inj (h₀ := h1.1) (h₁ := h2.1) h.nd).1 (h1.2.trans h2.2.symm)
        rw [if_pos this, if_pos rfl]
      · rw [if_neg (fun e => hba (by subst e; rw [← h1.2, ← h2.2])), if_neg hba]
  · have hp := h.put_new ha t
    have hpe : putE (κ.v a) t es clock = es ++ [(κ.v a, clock, t)] := by unfold putE; rw [h.no ha]
    by_cases hba : b = a
    · subst hba
      have : findT (κ.v b) (putE (κ.v b) t es clock) = some l.length := hp.find.2 (by simp)
      rw [this, if_pos rfl, hpe]
      simp [valAt, ← h.len]
    · rw [if_neg hba]
      cases hb : findT (κ.v b) es with
      | none =>
        have hbn : b ∉ l := fun hm => by
          obtain ⟨i, hi⟩ := List.mem_iff_getElem?.1 hm
          rw [h.find.2 hi] at hb; cases hb
        rw [hp.no (by simp [hbn, hba])]; rfl
      | some i =>
        have hi := h.find.1 hb
        have hil : i < es.length := findT_lt hb
        rw [hp.find.2 (by rw [List.getElem?_append_left (by rw [← h.len]; exact hil)]; exact hi), hpe]
        simp [valAt, List.getElem?_append_left hil]
theorem map_erase {β γ : Type} (f : β → γ) (l : List β) (j : Nat) : (l.eraseIdx j).map f = (l.map f).eraseIdx j := by
  apply List.ext_getElem?
  intro i
  rw [List.getElem?_map, List.getElem?_eraseIdx, List.getElem?_eraseIdx]
  split <;> rw [List.getElem?_map]
/-- A key goes. -/
def delE (k : Value) (es : Ents) : Ents := match findT k es with | some j => es.eraseIdx j | none => es
theorem MapOk.del (h : MapOk κ es clock l) [DecidableEq α] (a : α) : MapOk κ (delE (κ.v a) es) clock (l.erase a) := by
  unfold delE
  cases hf : findT (κ.v a) es with
  | none =>
    have han : a ∉ l := fun hm => by
      obtain ⟨i, hi⟩ := List.mem_iff_getElem?.1 hm
      rw [h.find.2 hi] at hf; cases hf
    rw [List.erase_of_not_mem han]; exact h
  | some j =>
    have hj := h.find.1 hf
    have hj' := List.getElem?_eq_some_iff.1 hj
    have he : l.erase a = l.eraseIdx j := by
      rw [List.erase_eq_eraseIdx]
      have : l.idxOf? a = some j := by
        unfold List.idxOf?
        rw [List.findIdx?_eq_some_iff_getElem]
        obtain ⟨q1, q2⟩ := hj'
        refine ⟨q1, by simp [q2], fun i hi => ?_⟩
        have hj' : ∃ h : j < l.length, l[j] = a := ⟨q1, q2⟩
        have : l[i]'(by omega) ≠ a := fun e => by
          have := (List.getElem_inj (h₀ := by omega) (h₁ := q1) h.nd).1 (e.trans q2.symm)
          omega
        simpa using this
      rw [this]
    rw [he]
    refine ⟨by rw [map_erase, map_erase, h.keys], h.nd.sublist (List.eraseIdx_sublist _ _), fun e hm => h.born e ((List.eraseIdx_sublist _ _).subset hm), ?_⟩
    rw [map_erase]
    exact h.bnd.sublist (List.eraseIdx_sublist _ _)
theorem MapOk.get_del (h : MapOk κ es clock l) [DecidableEq α] (a b : α) : getM κ (delE (κ.v a) es) b = if b = a then none else getM κ es b := by
  have hd := h.del a
  by_cases hba : b = a
  · subst hba
    rw [if_pos rfl]
    unfold getM
    rw [hd.no (fun hm => (List.Nodup.mem_erase_iff h.nd).1 hm |>.1 rfl)]; rfl
  · rw [if_neg hba]
    unfold getM
    cases hb : findT (κ.v b) es with
    | none =>
      have hbn : b ∉ l := fun hm => by
        obtain ⟨i, hi⟩ := List.mem_iff_getElem?.1 hm
        rw [h.find.2 hi] at hb; cases hb
      rw [hd.no (fun hm => hbn (List.mem_of_mem_erase hm))]; rfl
    | some i =>
      have hi := h.find.1 hb
      have hil := findT_lt hb
      cases hf : findT (κ.v a) es with
      | none =>
        have : delE (κ.v a) es = es := by unfold delE; rw [hf]
        rw [this, hb]
      | some j =>
        have hde : delE (κ.v a) es = es.eraseIdx j := by unfold delE; rw [hf]
        have hm : b ∈ l.erase a := (List.Nodup.mem_erase_iff h.nd).2 ⟨hba, List.mem_of_getElem? hi⟩
        obtain ⟨i', hi'⟩ := List.mem_iff_getElem?.1 hm
        rw [hd.find.2 hi']
        simp only [Option.map_some, Option.some.injEq]
        have hkd : (delE (κ.v a) es)[i']? = es[if i' < j then i' else i' + 1]? := by
          rw [hde, List.getElem?_eraseIdx]
          split <;> rfl
        have hkk : l[if i' < j then i' else i' + 1]? = some b := by
          have h3 := hd.keys
          have h4 : ((delE (κ.v a) es).map (·.1))[i']? = some (κ.v b) := by rw [h3, List.getElem?_map, hi']; rfl
          rw [List.getElem?_map, hkd, ← List.getElem?_map, h.keys, List.getElem?_map] at h4
          obtain ⟨x, hx, hxb⟩ := Option.map_eq_some_iff.1 h4
          rw [hx]
          have : keyEq (κ.v x) (κ.v b) = true := by rw [hxb]; exact (κ.eq b b).2 rfl
          rw [(κ.eq x b).1 this]
        have h5 := List.getElem?_eq_some_iff.1 hkk
        have h6 := List.getElem?_eq_some_iff.1 hi
        have : (if i' < j then i' else i' + 1) = i := (List.getElem_inj (h₀ := h5.1) (h₁ := h6.1) h.nd).1 (h5.2.trans h6.2.symm)
        unfold valAt
        rw [hkd, this]
end
theorem kS_v (s : Bs) : Value.string (st s) = kS.v s := rfl
theorem kI_v (n : Int) : Value.int .i64 n = kI.v n := rfl
end Go.Proofs.YtiijiejncefpmaaDoor.TL
namespace Go.Proofs.YtiijiejncefpmaaDoor.TL
open Go.RowKit Go.Sort

/-- New blocks behind the others. -/
theorem Rel.grow {w0 : World} {c : Cx} {S : TS} {w : World} (h : Rel w0 c S w) (os : Array Obj) : Rel w0 c S (Sort.grow w os) ∧ Mono c w c (Sort.grow w os) := by
  have hA : ∀ b o, c.A b o → (Sort.grow w os).cell? ⟨b, o, none⟩ = w.cell? ⟨b, o, none⟩ := fun b o ha => cell?_grow w os _ (h.alt ha)
  have m : Mono c w c (Sort.grow w os) := ⟨fun _ _ h => h, hA, fun _ _ h => h, Nat.le_refl _⟩
  refine ⟨⟨h.below.trans ⟨rfl, rfl, rfl, by simp, fun k hk => heap_grow_old w os (Nat.lt_of_lt_of_le hk h.le)⟩, h.dom, fun id hid => (h.obj id hid).keep m rfl (fun hl b e hb => ⟨heap_grow_old w os (h.fresh hb hl), fun _ h => h⟩), h.inj, fun b o ha => ?_, h.wf, h.cn⟩, m⟩
  obtain ⟨v, hv⟩ := h.cell b o ha
  exact ⟨v, (hA b o ha).trans hv⟩
theorem Rel.ahead {w0 : World} {c : Cx} {S : TS} {w : World} (h : Rel w0 c S w) (n : Nat) : Rel w0 c S (Sort.ahead w n) ∧ Mono c w c (Sort.ahead w n) := by
  have m : Mono c w c (Sort.ahead w n) := ⟨fun _ _ h => h, fun _ _ _ => rfl, fun _ _ h => h, Nat.le_refl _⟩
  exact ⟨⟨h.below.trans ⟨rfl, rfl, rfl, Nat.le_refl _, fun _ _ => rfl⟩, h.dom, fun id hid => (h.obj id hid).keep m rfl (fun _ b e _ => ⟨rfl, fun _ h => h⟩), h.inj, h.cell, h.wf, h.cn⟩, m⟩

def litC {α : Type} (enc : α → Value) (d : List α) : List TV := d.map fun x => .lit (enc x)
theorem putCells_get {α : Type} [Inhabited α] (enc : α → Value) (d : List α) (c : Array Value) (hc : d.length ≤ c.size) (j : Nat) (x : α) (hj : d[j]? = some x) : (putCells enc 0 d.toArray c)[j]? = some (enc x) := by
  have hlt : j < d.length := (List.getElem?_eq_some_iff.1 hj).1
  simp only [putCells, Array.getElem?_mapIdx, Array.getElem?_eq_getElem (show j < c.size by omega), Option.map_some, Nat.zero_le, true_and, Nat.zero_add, List.size_toArray, hlt, if_true, Nat.sub_zero]
  congr 2
  simp [hlt]
  rw [List.getElem?_eq_getElem hlt] at hj
  injection hj with hj
/-- A row is written over. -/
theorem Rel.putRow {α : Type} [Inhabited α] {w0 : World} {c : Cx} {S : TS} {w : World} (h : Rel w0 c S w) {id e b : Nat} {z : Nat × Nat} (enc : α → Value) (d d' : List α) (hobj : S.objs id = .cells e (litC enc d)) (hγ : c.γ id = some (b, z)) (hl : d'.length = d.length) :
    Rel w0 c (S.set id (.cells e (litC enc d'))) (Sort.putRow enc w b 0 d'.toArray) ∧ Mono c w c (Sort.putRow enc w b 0 d'.toArray) := by
  have hid := h.dom _ _ hγ
  have hob := h.obj id hid
  rw [hobj] at hob
  obtain ⟨g2, ⟨arr, fr, g3, gz, gl, g0⟩, gf, g4, g5⟩ := hob.2 b z hγ
  have hsz : (litC enc d).length = d.length := by simp [litC]
  have hother : ∀ k, k ≠ b → (Sort.putRow enc w b 0 d'.toArray).heap[k]? = w.heap[k]? := by
    intro k hk
    simp only [Sort.putRow, mapBlock, Array.getElem?_modify]
    rw [if_neg (fun e => hk e.symm)]
  have hblk : (Sort.putRow enc w b 0 d'.toArray).heap[b]? = some (.cells (putCells enc 0 d'.toArray arr) e fr) := by
    simp [Sort.putRow, mapBlock, Array.getElem?_modify, g3, onCells]
  refine h.change (w' := Sort.putRow enc w b 0 d'.toArray) id (.cells e (litC enc d')) b z hid hγ (by rw [hobj]; rfl) g2 (by simp [Sort.putRow, mapBlock]) ⟨rfl, rfl, rfl⟩ hother (fun j hj => absurd hj (g5 j)) fun m => ?_
  refine ⟨(fun hn => by rw [hγ] at hn; cases hn), fun b2 z2 h2 => ?_⟩
  rw [hγ] at h2
  injection h2 with h2; injection h2 with q1 q2; subst q1 q2
  refine ⟨g2, ⟨_, fr, hblk, by simp [putCells, gz], by simp only [litC, List.length_map]; rw [hl, ← hsz]; exact ⟨gl, g0⟩⟩, fun j hj => by rw [show (Sort.putRow enc w b 0 d'.toArray).frozen? ⟨b, j, none⟩ = w.frozen? ⟨b, j, none⟩ from frozen?_mapBlock _ _ _ _]; exact gf j hj, fun j x hx => ?_, g5⟩
  unfold litC at hx
  rw [List.getElem?_map] at hx
  obtain ⟨y, hy, rfl⟩ := Option.map_eq_some_iff.1 hx
  refine ⟨enc y, ?_, .lit _⟩
  rw [g0, Nat.zero_add]
  simp only [World.cell?, hblk]
  exact putCells_get enc d' arr (by rw [hl, ← hsz]; omega) j y hy
theorem holds_of {α : Type} [Inhabited α] {E : Env} {w0 : World} {c : Cx} {S : TS} {w : World} (hk : Ok E w0 c S w) {id e b : Nat} {z : Nat × Nat} (enc : α → Value) (d : List α) (hobj : S.objs id = .cells e (litC enc d)) (hγ : c.γ id = some (b, z)) : z.1 = 0 ∧ Holds enc w b 0 d.toArray ∧ b < w.heap.size := by
  have hob := hk.rel.obj id (hk.rel.dom _ _ hγ)
  rw [hobj] at hob
  obtain ⟨g2, ⟨arr, fr, g3, gz, gl, g0⟩, gf, g4, g5⟩ := hob.2 b z hγ
  have hsz : (litC enc d).length = d.length := by simp [litC]
  refine ⟨g0, fun j hj => ?_, (Array.getElem?_eq_some_iff.1 g3).1⟩
  have hj' : j < d.length := by simpa using hj
  obtain ⟨v, k1, k2⟩ := g4 j (.lit (enc d[j])) (by simp [litC, List.getElem?_map, List.getElem?_eq_getElem hj'])
  rw [k2.lit_inv, g0] at k1
  rw [k1]
  refine ⟨by simp [hj'], ?_⟩
  rw [Nat.zero_add]
  exact gf j (by omega)
/-- A call that turns a row's cells into others, and hands back nothing. -/
theorem TCall.sorted {α : Type} [Inhabited α] {E : Env} {f : FuncId} {S : TS} {id e n : Nat} (enc : α → Value) (d d' : List α) (ho : S.objs id = .cells e (litC enc d)) (hl : d'.length = d.length) (hn : n = d.length) (h0 : 0 < n) (he : Ent E.P f)
    (hc : ∀ blk cap w, Holds enc w blk 0 d.toArray → blk < w.heap.size → Calls E.P f #[.slice (some ⟨blk, 0, none⟩) d.length cap] w fun e w' => e = .returned (.tuple #[]) ∧ ∃ n os, w' = Sort.grow (Sort.putRow enc (Sort.ahead w n) blk 0 d'.toArray) os) :
    TCall E f [.vs id 0 1 n] S fun t S' => t = .tup [] ∧ S' = S.set id (.cells e (litC enc d')) := by
  intro w0 c w vs hk hv
  have hsz : vs.size = 1 := hv.size
  have hv0 := hv.rd 0 _ vs[0] rfl (Array.getElem?_eq_getElem (by omega))
  have hvs : vs = #[vs[0]] := by
    apply Array.ext
    · simpa using hsz
    · intro i h1 h2
      have : i = 0 := by simp at h2; exact h2
      subst this; rfl
  rw [hvs]
  generalize vs[0] = v at hv0 ⊢
  cases hv0 with
  | vs _ _ _ _ cap b z hγ hcap hz =>
    obtain ⟨g0, hH, hb⟩ := holds_of hk enc d ho hγ
    refine .inl ⟨he, ?_⟩
    have e0 : z.1 + 0 = 0 := by omega
    rw [e0, hn]
    refine (hc b cap w hH hb).mono fun e' w' ⟨h1, m, os, h2⟩ => ⟨_, h1, ?_⟩
    subst h2
    obtain ⟨r1, m1⟩ := hk.rel.ahead m
    obtain ⟨r2, m2⟩ := r1.putRow enc d d' ho hγ hl
    obtain ⟨r3, m3⟩ := r2.grow os
    exact ⟨.tup [], c, _, hk.step r3 ((m1.trans m2).trans m3), (m1.trans m2).trans m3, .tup [] #[] rfl (fun j t v h _ => by simp at h), rfl, rfl⟩
  | vsN => omega
/-- A call that turns a row's cells into others, and hands back its head. -/
theorem TCall.cutRow {α : Type} [Inhabited α] {E : Env} {f : FuncId} {S : TS} {id e n n' : Nat} (enc : α → Value) (d d' : List α) (ho : S.objs id = .cells e (litC enc d)) (hl : d'.length = d.length) (hn : n = d.length) (hn' : n' ≤ n) (h0 : 0 < n) (he : Ent E.P f)
    (hc : ∀ blk cap w, Holds enc w blk 0 d.toArray → d.length ≤ cap → Calls E.P f #[.slice (some ⟨blk, 0, none⟩) d.length cap] w fun e w' => e = .returned (.slice (some ⟨blk, 0, none⟩) n' cap) ∧ ∃ q, w' = Sort.putRow enc (Sort.ahead w q) blk 0 d'.toArray) :
    TCall E f [.vs id 0 1 n] S fun t S' => t = .vs id 0 1 n' ∧ S' = S.set id (.cells e (litC enc d')) := by
  intro w0 c w vs hk hv
  have hsz : vs.size = 1 := hv.size
  have hv0 := hv.rd 0 _ vs[0] rfl (Array.getElem?_eq_getElem (by omega))
  have hvs : vs = #[vs[0]] := by
    apply Array.ext
    · simpa using hsz
    · intro i h1 h2
      have : i = 0 := by simp at h2; exact h2
      subst this; rfl
  rw [hvs]
  generalize vs[0] = v at hv0 ⊢
  cases hv0 with
  | vs _ _ _ _ cap b z hγ hcap hz =>
    obtain ⟨g0, hH, hb⟩ := holds_of hk enc d ho hγ
    refine .inl ⟨he, ?_⟩
    have e0 : z.1 + 0 = 0 := by omega
    have hvs0 := RdT.vs (c := c) (w := w) id 0 1 n' cap b z hγ (by omega) hz
    rw [e0] at hvs0
    rw [e0, hn]
    refine (hc b cap w hH (by omega)).mono fun e' w' ⟨h1, m, h2⟩ => ⟨_, h1, ?_⟩
    subst h2
    obtain ⟨r1, m1⟩ := hk.rel.ahead m
    obtain ⟨r2, m2⟩ := r1.putRow enc d d' ho hγ hl
    exact ⟨.vs id 0 1 n', c, _, hk.step r2 (m1.trans m2), m1.trans m2, hvs0.step (m1.trans m2), rfl, rfl⟩
  | vsN => omega
theorem vs_empty {c : Cx} {w : World} {id off s : Nat} {vs : Array Value} (hv : RdCells c w [.vs id off s 0] vs) : ∃ p cap, vs = #[.slice p 0 cap] ∧ RdT c w (.vs id off s 0) (.slice p 0 cap) := by
  have hsz : vs.size = 1 := hv.size
  have hv0 := hv.rd 0 _ vs[0] rfl (Array.getElem?_eq_getElem (by omega))
  have hvs : vs = #[vs[0]] := by
    apply Array.ext
    · simpa using hsz
    · intro i h1 h2
      have : i = 0 := by simp at h2; exact h2
      subst this; rfl
  rw [hvs]
  generalize vs[0] = v at hv0 ⊢
  have hv1 := hv0
  cases hv0 with
  | vs _ _ _ _ cap b z hγ hcap hz => exact ⟨_, _, rfl, hv1⟩
  | vsN => exact ⟨_, _, rfl, hv1⟩
theorem TCall.sorted0 {E : Env} {f : FuncId} {S : TS} {id off s : Nat} (he : Ent E.P f) (hc : ∀ p cap w, Calls E.P f #[.slice p 0 cap] w fun e w' => e = .returned (.tuple #[]) ∧ w' = w) : TCall E f [.vs id off s 0] S fun t S' => t = .tup [] ∧ S' = S := by
  intro w0 c w vs hk hv
  obtain ⟨p, cap, rfl, _⟩ := vs_empty hv
  refine .inl ⟨he, (hc p cap w).mono fun e' w' ⟨h1, h2⟩ => ⟨_, h1, ?_⟩⟩
  subst h2
  exact ⟨.tup [], c, S, hk, Mono.refl _ _, .tup [] #[] rfl (fun j t v h _ => by simp at h), rfl, rfl⟩
theorem TCall.cut0 {E : Env} {f : FuncId} {S : TS} {id off s : Nat} (he : Ent E.P f) (hc : ∀ p cap w, Calls E.P f #[.slice p 0 cap] w fun e w' => e = .returned (.slice p 0 cap) ∧ w' = w) : TCall E f [.vs id off s 0] S fun t S' => t = .vs id off s 0 ∧ S' = S := by
  intro w0 c w vs hk hv
  obtain ⟨p, cap, rfl, hr⟩ := vs_empty hv
  refine .inl ⟨he, (hc p cap w).mono fun e' w' ⟨h1, h2⟩ => ⟨_, h1, ?_⟩⟩
  subst h2
  exact ⟨_, c, S, hk, Mono.refl _ _, hr, rfl, rfl⟩
end Go.Proofs.YtiijiejncefpmaaDoor.TL
namespace Go.Proofs
open Go.Shelf
def Tryd.lays190_ren : Go.Shelf.Ren := ⟨fun | 190 => 53 | 125 => 78 | 258 => 77 | 128 => 98 | 129 => 99 | 302 => 89 | 303 => 90 | 304 => 91 | 305 => 92 | 306 => 93 | 307 => 94 | 308 => 95 | 309 => 96 | 310 => 97 | 333 => 106 | 329 => 107 | 330 => 108 | 334 => 109 | 335 => 110 | 336 => 111 | 344 => 115 | n => n, fun | 31 => 35 | 9 => 9 | 3 => 3 | 46 => 78 | 0 => 0 | 51 => 90 | 53 => 89 | 4 => 4 | 183 => 120 | 182 => 119 | 131 => 125 | 5 => 5 | 218 => 134 | 222 => 138 | 228 => 147 | 229 => 148 | n => n, fun | n => n⟩
theorem Tryd.lays190 : Go.Proofs.Lays.n190 Tryd.prog Tryd.lays190_ren := {
  mixed := by kernel_rfl
  f125 := Tryd.func78.trans (congrArg some (by kernel_rfl))
  f128 := Tryd.func98.trans (congrArg some (by kernel_rfl))
  f129 := Tryd.func99.trans (congrArg some (by kernel_rfl))
  f190 := Tryd.func53.trans (congrArg some (by kernel_rfl))
  f258 := Tryd.func77.trans (congrArg some (by kernel_rfl))
  f302 := Tryd.func89.trans (congrArg some (by kernel_rfl))
  f303 := Tryd.func90.trans (congrArg some (by kernel_rfl))
  f304 := Tryd.func91.trans (congrArg some (by kernel_rfl))
  f305 := Tryd.func92.trans (congrArg some (by kernel_rfl))
  f306 := Tryd.func93.trans (congrArg some (by kernel_rfl))
  f307 := Tryd.func94.trans (congrArg some (by kernel_rfl))
  f308 := Tryd.func95.trans (congrArg some (by kernel_rfl))
  f309 := Tryd.func96.trans (congrArg some (by kernel_rfl))
  f310 := Tryd.func97.trans (congrArg some (by kernel_rfl))
  f329 := Tryd.func107.trans (congrArg some (by kernel_rfl))
  f330 := Tryd.func108.trans (congrArg some (by kernel_rfl))
  f333 := Tryd.func106.trans (congrArg some (by kernel_rfl))
  f334 := Tryd.func109.trans (congrArg some (by kernel_rfl))
  f335 := Tryd.func110.trans (congrArg some (by kernel_rfl))
  f336 := Tryd.func111.trans (congrArg some (by kernel_rfl))
  f344 := Tryd.func115.trans (congrArg some (by kernel_rfl))
  t0 := Tryd.underlying0
  a0 := Tryd.isAgg0
  z0 := Tryd.sizeOf0
  v0 := Tryd.zeroValue0
  t3 := Tryd.underlying3
  a3 := Tryd.isAgg3
  z3 := Tryd.sizeOf3
  v3 := Tryd.zeroValue3
  t4 := Tryd.underlying4
  a4 := Tryd.isAgg4
  z4 := Tryd.sizeOf4
  v4 := Tryd.zeroValue4
  t5 := Tryd.underlying5
  a5 := Tryd.isAgg5
  z5 := Tryd.sizeOf5
  v5 := Tryd.zeroValue5
  t9 := Tryd.underlying9
  a9 := Tryd.isAgg9
  z9 := Tryd.sizeOf9
  v9 := Tryd.zeroValue9
  t31 := Tryd.underlying35
  a31 := Tryd.isAgg35
  z31 := Tryd.sizeOf35
  v31 := Tryd.zeroValue35
  t46 := Tryd.underlying78
  a46 := Tryd.isAgg78
  z46 := Tryd.sizeOf78
  v46 := Tryd.zeroValue78
  t51 := Tryd.underlying90
  a51 := Tryd.isAgg90
  z51 := Tryd.sizeOf90
  v51 := Tryd.zeroValue90
  t53 := Tryd.underlying89
  a53 := Tryd.isAgg89
  z53 := Tryd.sizeOf89
  v53 := Tryd.zeroValue89
  t131 := Tryd.underlying125
  a131 := Tryd.isAgg125
  z131 := Tryd.sizeOf125
  v131 := Tryd.zeroValue125
  t182 := Tryd.underlying119
  a182 := Tryd.isAgg119
  z182 := Tryd.sizeOf119
  v182 := Tryd.zeroValue119
  t183 := Tryd.underlying120
  a183 := Tryd.isAgg120
  z183 := Tryd.sizeOf120
  v183 := Tryd.zeroValue120
  t218 := Tryd.underlying134
  a218 := Tryd.isAgg134
  z218 := Tryd.sizeOf134
  v218 := Tryd.zeroValue134
  t222 := Tryd.underlying138
  a222 := Tryd.isAgg138
  z222 := Tryd.sizeOf138
  v222 := Tryd.zeroValue138
  t228 := Tryd.underlying147
  a228 := Tryd.isAgg147
  z228 := Tryd.sizeOf147
  v228 := Tryd.zeroValue147
  t229 := Tryd.underlying148
  a229 := Tryd.isAgg148
  z229 := Tryd.sizeOf148
  v229 := Tryd.zeroValue148 }
open Go.Sort Go.RowKit in
theorem Tryd.slices_Sort_string (blk off cap : Nat) (ss : List (List UInt8)) (w : World) (hH : Holds encStr w blk off ss.toArray) (hblk : blk < w.heap.size) (hsz : ss.length < 4611686018427387904) :
    Calls Tryd.prog 53 #[.slice (some ⟨blk, off, none⟩) ss.length cap] w fun e w' =>
      e = .returned (.tuple #[]) ∧ ∃ n os, w' = grow (putRow encStr (Sort.ahead w n) blk off (ss.mergeSort fun x y => decide (x ≤ y)).toArray) os := Any.slices_Sort_string Tryd.lays190 blk off cap ss w hH hblk hsz
def Tryd.lays194_ren : Go.Shelf.Ren := ⟨fun | 194 => 54 | n => n, fun | 31 => 35 | 9 => 9 | 3 => 3 | 4 => 4 | 0 => 0 | n => n, fun | n => n⟩
theorem Tryd.lays194 : Go.Proofs.Lays.n194 Tryd.prog Tryd.lays194_ren := {
  mixed := by kernel_rfl
  f194 := Tryd.func54.trans (congrArg some (by kernel_rfl))
  t0 := Tryd.underlying0
  a0 := Tryd.isAgg0
  z0 := Tryd.sizeOf0
  v0 := Tryd.zeroValue0
  t3 := Tryd.underlying3
  a3 := Tryd.isAgg3
  z3 := Tryd.sizeOf3
  v3 := Tryd.zeroValue3
  t4 := Tryd.underlying4
  a4 := Tryd.isAgg4
  z4 := Tryd.sizeOf4
  v4 := Tryd.zeroValue4
  t9 := Tryd.underlying9
  a9 := Tryd.isAgg9
  z9 := Tryd.sizeOf9
  v9 := Tryd.zeroValue9
  t31 := Tryd.underlying35
  a31 := Tryd.isAgg35
  z31 := Tryd.sizeOf35
  v31 := Tryd.zeroValue35 }
open Go.RowKit Go.Lib Go.Sort in
/-- slices.Compact at []string: "Compact replaces consecutive runs of equal elements with a single copy. This is like the uniq command found on Unix. Compact modifies the contents of the slice s and returns the modified slice, which may have a smaller length. Compact zeroes the elements between the new length and the original length. The result preserves the nilness of s.": IT RETURNS THE SLICE CUT TO 'Lib.compact zs'; ITS CELLS HOLD 'Lib.compact zs', THEN ZERO VALUES up to the old length; all else is as it was, but for the count of draws. IN THE WORDS OF slices.Sort's CONTRACT ('Holds', 'putRow'): so the everyday 'slices.Sort(xs); xs = slices.Compact(xs)' goes from the one contract to the other. It asks 'zs.length ≤ cap' (every slice's: the reslicing 's[:k]' looks at it). Length 0, nil: '.._empty'. (LAID: no walk: one application.) -/
theorem Tryd.slices_Compact_string (blk off cap : Nat) (zs : List (List UInt8)) (w : World) (hH : Holds encStr w blk off zs.toArray) (hsz : zs.length ≤ 9223372036854775807) (hcap : zs.length ≤ cap) :
    Calls Tryd.prog 54 #[.slice (some ⟨blk, off, none⟩) zs.length cap] w fun e w' => e = .returned (.slice (some ⟨blk, off, none⟩) (Lib.compact zs).length cap) ∧ ∃ q, w' = putRow encStr (Sort.ahead w q) blk off (Lib.compact zs ++ List.replicate (zs.length - (Lib.compact zs).length) []).toArray := Any.slices_Compact_string Tryd.lays194 blk off cap zs w hH hsz hcap
open Go.RowKit Go.Lib Go.Sort in
/-- The same at a slice of length 0, a nil one too: it comes back as it is. (LAID: no walk: one application.) -/
theorem Tryd.slices_Compact_string_empty (a : Option Addr) (cap : Nat) (w : World) :
    Calls Tryd.prog 54 #[.slice a 0 cap] w fun e w' => e = .returned (.slice a 0 cap) ∧ w' = w := Any.slices_Compact_string_empty Tryd.lays194 a cap w
open Go.RowKit Go.Sort in
/-- .. and plain. (LAID: no walk: one application.) -/
theorem Tryd.slices_Sort_string_none (p : Option Addr) (cap : Nat) (w : World) :
    Calls Tryd.prog 53 #[.slice p 0 cap] w fun e w' => e = .returned (.tuple #[]) ∧ w' = w := Any.slices_Sort_string_none Tryd.lays190 p cap w
end Go.Proofs
namespace Go.Proofs.YtiijiejncefpmaaDoor
open Go.RowKit TL

def toU (s : Bs) : List UInt8 := s.map UInt8.ofBitVec
def ofU (u : List UInt8) : Bs := u.map UInt8.toBitVec
theorem ofU_toU (s : Bs) : ofU (toU s) = s := by
  simp only [ofU, toU, List.map_map]
  have : (UInt8.toBitVec ∘ UInt8.ofBitVec) = id := by funext x; rfl
  rw [this, List.map_id]
theorem toU_ofU (u : List UInt8) : toU (ofU u) = u := by
  simp only [ofU, toU, List.map_map]
  have : (UInt8.ofBitVec ∘ UInt8.toBitVec) = id := by funext x; rfl
  rw [this, List.map_id]
theorem toU_inj {a b : Bs} (h : toU a = toU b) : a = b := by rw [← ofU_toU a, h, ofU_toU]
theorem ltS_lt (a b : Bs) : ltS a b = decide (toU a < toU b) := by rw [← ltS_ok, Go.Proofs.bytesLess_eq]; rfl
theorem enc_toU (s : Bs) : encStr (toU s) = .string (st s) := rfl
theorem cells_toU (l : List Bs) : cellsD (dT l) = litC encStr (l.map toU) := by
  induction l with
  | nil => rfl
  | cons x l ih => show _ :: cellsD (dT l) = _; rw [ih]; rfl
def sortB (l : List Bs) : List Bs := ((l.map toU).mergeSort fun x y => decide (x ≤ y)).map ofU
def compB (l : List Bs) : List Bs := (Lib.compact (l.map toU)).map ofU
theorem map_toU_ofU (l : List (List UInt8)) : (l.map ofU).map toU = l := by
  rw [List.map_map]
  have : (toU ∘ ofU) = id := by funext x; exact toU_ofU x
  rw [this, List.map_id]
theorem map_ofU_toU (l : List Bs) : (l.map toU).map ofU = l := by
  rw [List.map_map]
  have : (ofU ∘ toU) = id := by funext x; exact ofU_toU x
  rw [this, List.map_id]
theorem sortB_len (l : List Bs) : (sortB l).length = l.length := by simp [sortB]
theorem sortB_mem (l : List Bs) (x : Bs) : x ∈ sortB l ↔ x ∈ l := by
  have hp := List.mergeSort_perm (l.map toU) (fun x y => decide (x ≤ y))
  have : (sortB l).Perm l := by
    have := hp.map ofU
    rw [map_ofU_toU] at this
    exact this
  exact this.mem_iff
theorem leS_iff (a b : Bs) : decide (toU a ≤ toU b) = !ltS b a := by
  rw [ltS_lt, ← decide_not]
  rfl
theorem sortB_sorted (l : List Bs) : (sortB l).Pairwise fun a b => ltS b a = false := by
  have h := List.pairwise_mergeSort (le := fun x y : List UInt8 => decide (x ≤ y)) (fun a b c h1 h2 => by simpa using List.le_trans (of_decide_eq_true h1) (of_decide_eq_true h2)) (fun a b => by simpa using List.le_total a b) (l.map toU)
  unfold sortB
  rw [List.pairwise_map]
  refine h.imp fun {a b} hab => ?_
  have := leS_iff (ofU a) (ofU b)
  rw [toU_ofU, toU_ofU, hab] at this
  cases h : ltS (ofU b) (ofU a)
  · rfl
  · rw [h] at this; cases this
theorem compB_eq {l : List Bs} (h : l.Pairwise fun a b => ltS b a = false) : Ris (compB l) ∧ ∀ x, x ∈ compB l ↔ x ∈ l := by
  have hget : ∀ i, i < l.length → (l.map toU).toArray[i]! = toU (l.getD i []) := by
    intro i hi
    simp [hi, List.getD_eq_getElem?_getD]
  have hle : ∀ i j, i < j → j < l.length → ltS (l.getD j []) (l.getD i []) = false := by
    intro i j hij hj
    have := List.pairwise_iff_getElem.1 h i j (by omega) hj hij
    rw [List.getD_eq_getElem?_getD, List.getD_eq_getElem?_getD, List.getElem?_eq_getElem hj, List.getElem?_eq_getElem (by omega : i < l.length)]
    exact this
  have hc : compB l = ((List.range l.length).filter (Lib.keeps (l.map toU).toArray)).map fun i => l.getD i [] := by
    unfold compB Lib.compact Lib.compactUpTo
    rw [List.length_map, List.map_map]
    apply List.map_congr_left
    intro i hi
    have hi' := List.mem_range.1 (List.mem_filter.1 hi).1
    simp only [Function.comp_apply]
    rw [hget i hi', ofU_toU]
  have hkeep : ∀ i, i < l.length → (Lib.keeps (l.map toU).toArray i = true ↔ i = 0 ∨ l.getD i [] ≠ l.getD (i - 1) []) := by
    intro i hi
    unfold Lib.keeps
    rw [decide_eq_true_eq, hget i hi, hget (i - 1) (by omega)]
    constructor
    · rintro (h | h)
      · exact .inl h
      · exact .inr fun e => h (by rw [e])
    · rintro (h | h)
      · exact .inl h
      · exact .inr fun e => h (toU_inj e)
  rw [hc]
  constructor
  · refine List.pairwise_map.2 ?_
    refine (List.Pairwise.filter _ List.pairwise_lt_range).imp_of_mem fun {i j} hi hj hij => ?_
    obtain ⟨hi1, hi2⟩ := List.mem_filter.1 hi
    obtain ⟨hj1, hj2⟩ := List.mem_filter.1 hj
    have hjl := List.mem_range.1 hj1
    rcases (hkeep j hjl).1 hj2 with h0 | h0
    · omega
    have h1 := hle (j - 1) j (by omega) hjl
    have h2 : ltS (l.getD (j - 1) []) (l.getD j []) = true := by
      rcases ltS_total (l.getD (j - 1) []) (l.getD j []) with h | h | h
      · exact h
      · exact absurd h.symm h0
      · rw [h1] at h; cases h
    rcases Nat.lt_or_ge i (j - 1) with hlt | hge
    · have h3 := hle i (j - 1) hlt (by omega)
      rcases ltS_total (l.getD i []) (l.getD (j - 1) []) with h | h | h
      · exact ltS_trans h h2
      · rw [h]; exact h2
      · rw [h3] at h; cases h
    · obtain rfl : i = j - 1 := by omega
      exact h2
  · intro x
    constructor
    · intro hx
      obtain ⟨i, hi, rfl⟩ := List.mem_map.1 hx
      exact getD_mem (List.mem_range.1 (List.mem_filter.1 hi).1)
    · intro hx
      obtain ⟨i, hi, hxi⟩ := List.getElem_of_mem hx
      have hx' : l.getD i [] = x := by rw [List.getD_eq_getElem?_getD, List.getElem?_eq_getElem hi]; exact hxi
      clear hxi
      induction i with
      | zero => exact List.mem_map.2 ⟨0, List.mem_filter.2 ⟨List.mem_range.2 hi, (hkeep 0 hi).2 (.inl rfl)⟩, hx'⟩
      | succ i ih =>
        by_cases he : l.getD i [] = x
        · exact ih (by omega) he
        · exact List.mem_map.2 ⟨i + 1, List.mem_filter.2 ⟨List.mem_range.2 hi, (hkeep (i + 1) hi).2 (.inr (by rw [Nat.add_sub_cancel, hx']; exact fun e => he e.symm))⟩, hx'⟩
theorem comp_sort (l : List Bs) : compB (sortB l) = riseL l := by
  obtain ⟨h1, h2⟩ := compB_eq (sortB_sorted l)
  exact ris_ext h1 (riseL_ris l) fun y => by rw [h2, sortB_mem, riseL_mem]
theorem compB_len (l : List Bs) : (compB l).length ≤ l.length := by
  have := Lib.compact_length_le (l.map toU)
  simpa [compB] using this

set_option maxRecDepth 8000 in
set_option maxHeartbeats 1000000 in
theorem c_slices_Sort {S : TS} {id n : Nat} {l : List Bs} {K : TV → TS → Prop} (ho : S.objs id = .cells 9 (cellsD (dT l))) (hn : n = l.length) (hK : K (.tup []) (S.set id (.cells 9 (cellsD (dT (sortB l)))))) (hl : l.length ≤ 1000000 := by omega) :
    TCall env 53 [.vs id 0 1 n] S K := by
  by_cases h0 : n = 0
  · have hl0 : l = [] := List.eq_nil_of_length_eq_zero (by omega)
    subst hl0
    subst h0
    refine (TCall.sorted0 (ent_of Tryd.func53 rfl rfl) fun p cap w => Tryd.slices_Sort_string_none p cap w).mono fun t S' ⟨h1, h2⟩ => ?_
    rw [h1, h2]
    have : S.set id (.cells 9 (cellsD (dT (sortB [])))) = S := by
      have e : sortB [] = [] := List.eq_nil_of_length_eq_zero (sortB_len [])
      rw [e, ← ho]; exact set_self S id
    rw [this] at hK
    exact hK
  · rw [cells_toU] at ho
    refine (TCall.sorted encStr (l.map toU) ((sortB l).map toU) ho (by simp [sortB_len]) (by simpa using hn) (by omega) (ent_of Tryd.func53 rfl rfl) fun blk cap w hH hb => ?_).mono fun t S' ⟨h1, h2⟩ => by rw [h1, h2, ← cells_toU]; exact hK
    have := Tryd.slices_Sort_string blk 0 cap (l.map toU) w hH hb (by simp; omega)
    rw [sortB, map_toU_ofU]
    exact this
set_option maxRecDepth 8000 in
set_option maxHeartbeats 1000000 in
theorem c_slices_Compact {S : TS} {id n : Nat} {l : List Bs} {K : TV → TS → Prop} (ho : S.objs id = .cells 9 (cellsD (dT l))) (hn : n = l.length) (hK : K (.vs id 0 1 (compB l).length) (S.set id (.cells 9 (cellsD (dT (compB l ++ List.replicate (l.length - (compB l).length) []))))))  (hl : l.length ≤ 1000000 := by omega) :
    TCall env 54 [.vs id 0 1 n] S K := by
  by_cases h0 : n = 0
  · have hl0 : l = [] := List.eq_nil_of_length_eq_zero (by omega)
    subst hl0
    subst h0
    refine (TCall.cut0 (ent_of Tryd.func54 rfl rfl) fun p cap w => Tryd.slices_Compact_string_empty p cap w).mono fun t S' ⟨h1, h2⟩ => ?_
    rw [h1, h2]
    have e : compB [] = [] := List.eq_nil_of_length_eq_zero (by have := compB_len []; simpa using this)
    rw [e] at hK
    have : S.set id (.cells 9 (cellsD (dT ([] ++ List.replicate (([] : List Bs).length - ([] : List Bs).length) [])))) = S := by
      have e2 : cellsD (dT ([] ++ List.replicate (([] : List Bs).length - ([] : List Bs).length) [])) = cellsD (dT []) := rfl
      rw [e2, ← ho]; exact set_self S id
    rw [this] at hK
    exact hK
  · rw [cells_toU] at ho
    have hcl := compB_len l
    refine (TCall.cutRow (n' := (compB l).length) encStr (l.map toU) ((compB l ++ List.replicate (l.length - (compB l).length) []).map toU) ho (by simp; omega) (by simpa using hn) (by omega) (by omega) (ent_of Tryd.func54 rfl rfl) fun blk cap w hH hc => ?_).mono fun t S' ⟨h1, h2⟩ => by rw [h1, h2, ← cells_toU]; exact hK
    have := Tryd.slices_Compact_string blk 0 cap (l.map toU) w hH (by simp; omega) hc
    have e1 : (compB l).map toU = Lib.compact (l.map toU) := map_toU_ofU _
    have e2 : (compB l).length = (Lib.compact (l.map toU)).length := by rw [← e1, List.length_map]
    have e3 : (compB l ++ List.replicate (l.length - (compB l).length) []).map toU = Lib.compact (l.map toU) ++ List.replicate ((l.map toU).length - (Lib.compact (l.map toU)).length) [] := by
      rw [List.map_append, e1, List.map_replicate, List.length_map, e2]; rfl
    rw [e3, e2]
    exact this
end Go.Proofs.YtiijiejncefpmaaDoor
namespace Go.Proofs.YtiijiejncefpmaaDoor
open Go.RowKit TL

def isL (c : BitVec 8) : Bool := decide (0 ≤ idxS b32 c)
def win (p : Bs) (i : Nat) : Bs := (p.drop i).take 32
theorem win_len {p : Bs} {i : Nat} (h : i + 32 ≤ p.length) : (win p i).length = 32 := by simp [win]; omega
theorem win_get {p : Bs} {i j : Nat} (h : i + 32 ≤ p.length) (hj : j < 32) : (win p i).getD j 0#8 = p.getD (i + j) 0#8 := by
  simp [win, List.getD_eq_getElem?_getD, List.getElem?_take, hj]
theorem okB_all {s : Bs} : okB s = true ↔ ∀ j, j < s.length → isL (s.getD j 0#8) = true := by
  rw [okB, List.all_eq_true]
  constructor
  · intro h j hj; exact h _ (getD_mem hj)
  · intro h c hc
    obtain ⟨j, hj, rfl⟩ := List.getElem_of_mem hc
    have := h j hj
    rw [List.getD_eq_getElem?_getD, List.getElem?_eq_getElem hj] at this
    exact this
theorem okB_win {p : Bs} {i : Nat} (h : i + 32 ≤ p.length) : okB (win p i) = true ↔ ∀ j, i ≤ j → j < i + 32 → isL (p.getD j 0#8) = true := by
  rw [okB_all, win_len h]
  constructor
  · intro g j h1 h2
    have := g (j - i) (by omega)
    rw [win_get h (by omega), show i + (j - i) = j by omega] at this
    exact this
  · intro g j hj
    rw [win_get h hj]; exact g _ (by omega) (by omega)
/-- Where a text of 32 letters stands, among the first so many places. -/
def spotN (p : Bs) (m : Nat) (s : Bs) : List Nat := (List.range m).filter fun i => decide (win p i = s) && okB s
def spotL (p : Bs) (m : Nat) (s : Bs) : List Int := (spotN p m s).map fun i : Nat => (i : Int)
theorem spotN_succ (p : Bs) (m : Nat) (s : Bs) : spotN p (m + 1) s = spotN p m s ++ if win p m = s ∧ okB s = true then [m] else [] := by
  unfold spotN
  rw [List.range_succ, List.filter_append]
  congr 1
  by_cases h1 : win p m = s <;> cases h2 : okB s <;> simp [h1, h2]
theorem spotL_succ (p : Bs) (m : Nat) (s : Bs) : spotL p (m + 1) s = spotL p m s ++ if win p m = s ∧ okB s = true then [(m : Int)] else [] := by
  unfold spotL
  rw [spotN_succ, List.map_append]
  split <;> rfl
theorem spotL_len (p : Bs) (m : Nat) (s : Bs) : (spotL p m s).length ≤ m := by
  unfold spotL spotN
  rw [List.length_map]
  exact Nat.le_trans (List.length_filter_le _ _) (by simp)
structure RunOk (S : TS) (id n0 : Nat) (p : Bs) (m : Nat) (es : Ents) (clock : Nat) (l : List Bs) (kf : Bs → Nat) : Prop where
  o : S.objs id = .map es clock
  mo : MapOk kS es clock l
  lid : id < S.n
  no : ∀ s, spotL p m s = [] → getM kS es s = none
  yes : ∀ s, spotL p m s ≠ [] → getM kS es s = some (.sl (.own (kf s)) 1 (dI (spotL p m s))) ∧ S.objs (kf s) = .lin ∧ n0 ≤ kf s ∧ kf s < S.n ∧ kf s ≠ id
  inj : ∀ s s', spotL p m s ≠ [] → spotL p m s' ≠ [] → kf s = kf s' → s = s'
theorem RunOk.skip {S : TS} {id n0 : Nat} {p : Bs} {m : Nat} {es : Ents} {clock : Nat} {l : List Bs} {kf : Bs → Nat} (h : RunOk S id n0 p m es clock l kf) (hno : okB (win p m) = false) : RunOk S id n0 p (m + 1) es clock l kf := by
  have e : ∀ s, spotL p (m + 1) s = spotL p m s := fun s => by
    rw [spotL_succ, if_neg, List.append_nil]
    rintro ⟨h1, h2⟩
    rw [h1, h2] at hno; cases hno
  exact ⟨h.o, h.mo, h.lid, fun s hs => h.no s (by rw [← e]; exact hs), fun s hs => by rw [e] at hs ⊢; exact h.yes s hs, fun s s' h1 h2 => by rw [e] at h1 h2; exact h.inj s s' h1 h2⟩
theorem dI_one (n : Nat) : [D.lit (.int .i64 (n : Int))] = dI [(n : Int)] := rfl
theorem putE_kS (s : Bs) (t : TV) (es : Ents) (c : Nat) : putE (.string (st s)) t es c = putE (kS.v s) t es c := rfl
/-- One more place is noted. -/
theorem RunOk.note {S : TS} {id n0 : Nat} {p : Bs} {m : Nat} {es : Ents} {clock : Nat} {l : List Bs} {kf : Bs → Nat} (h : RunOk S id n0 p m es clock l kf) (hok : okB (win p m) = true) (hn : n0 ≤ S.n) {S' : TS} (hn' : S'.n = S.n + 1)
    (ho : S'.objs id = .map (putE (.string (st (win p m))) (.sl (.own S.n) 1 (dI (spotL p m (win p m) ++ [(m : Int)]))) es clock) (clkE (.string (st (win p m))) es clock)) (hr : S'.objs S.n = .lin)
    (hoth : ∀ s, s ≠ win p m → spotL p m s ≠ [] → S'.objs (kf s) = S.objs (kf s)) : ∃ es' clock' l' kf', RunOk S' id n0 p (m + 1) es' clock' l' kf' := by
  have hid := h.lid
  have e1 : spotL p (m + 1) (win p m) = spotL p m (win p m) ++ [(m : Int)] := by rw [spotL_succ, if_pos ⟨rfl, hok⟩]
  have e2 : ∀ s, s ≠ win p m → spotL p (m + 1) s = spotL p m s := fun s hs => by rw [spotL_succ, if_neg (fun hh => hs hh.1.symm), List.append_nil]
  refine ⟨_, _, _, fun s => if s = win p m then S.n else kf s, ho, h.mo.put (win p m) _, by omega, fun s hs => ?_, fun s hs => ?_, fun s s' h1 h2 hk => ?_⟩
  · have hne : s ≠ win p m := fun e => by subst e; rw [e1] at hs; simp at hs
    rw [putE_kS, h.mo.get_put, if_neg hne]
    exact h.no s (by rw [← e2 s hne]; exact hs)
  · rw [putE_kS, h.mo.get_put]
    by_cases hsw : s = win p m
    · subst hsw
      simp only [if_true]
      rw [e1]
      exact ⟨rfl, hr, hn, by omega, by omega⟩
    · simp only [if_neg hsw]
      rw [e2 s hsw] at hs ⊢
      obtain ⟨g1, g2, g3, g4, g5⟩ := h.yes s hs
      exact ⟨g1, by rw [hoth s hsw hs]; exact g2, g3, by omega, g5⟩
  · by_cases hsw : s = win p m
    · by_cases hsw' : s' = win p m
      · rw [hsw, hsw']
      · simp only [if_pos hsw, if_neg hsw'] at hk
        rw [e2 s' hsw'] at h2
        have := (h.yes s' h2).2.2.2.1
        omega
    · by_cases hsw' : s' = win p m
      · simp only [if_neg hsw, if_pos hsw'] at hk
        rw [e2 s hsw] at h1
        have := (h.yes s h1).2.2.2.1
        omega
      · simp only [if_neg hsw, if_neg hsw'] at hk
        rw [e2 s hsw] at h1
        rw [e2 s' hsw'] at h2
        exact h.inj s s' h1 h2 hk
theorem ps_at {S : TS} {id : Nat} (o o2 : TObj) (h : id < S.n) : ((S.set id o).push o2).objs id = o := by
  rw [push_sel, sel_ne (show id ≠ (S.set id o).n from Nat.ne_of_lt h), set_sel, sel_eq rfl]
theorem ps_new {S : TS} {id n : Nat} (o o2 : TObj) (h : n = S.n) : ((S.set id o).push o2).objs n = o2 := by
  rw [push_sel, sel_eq (show n = (S.set id o).n from h)]
theorem ps_old {S : TS} {id k : Nat} (o o2 : TObj) (h : k < S.n) (h2 : k ≠ id) : ((S.set id o).push o2).objs k = S.objs k := by
  rw [push_sel, sel_ne (show k ≠ (S.set id o).n from Nat.ne_of_lt h), set_sel, sel_ne h2]
theorem st_old {S : TS} {id k : Nat} (o : TObj) (h2 : k ≠ id) : (S.set id o).objs k = S.objs k := by
  rw [set_sel, sel_ne h2]
theorem keyB_str (s : ByteArray) : isKeyB .string (.string s) = true := rfl
theorem lkT_f (v : TV) (b : Bool) : lkT false v b = v := rfl
set_option maxRecDepth 8000 in
set_option maxHeartbeats 1000000 in
theorem c_scan_runs {S : TS} {g : Tag} {p : Bs} {K : TV → TS → Prop} (hK : ∀ S' es clock l kf, RunOk S' S.n S.n p (p.length - 31) es clock l kf → Keep S S' → K (.mp S.n) S') (hp : p.length ≤ 1000000 := by omega) :
    TCall env 52 [.sl g 1 (dB p)] S K := by
  refine TCall.w 43 [.tmp 2] Tryd.func52 rfl rfl rfl rfl (by kernel_rfl) rfl ?_
  simp -implicitDefEqProofs (disch := omega) only [seval, go_sem]
  refine loW_inv (fun n T S' => ∃ (i r : Nat) (es : Ents) (clock : Nat) (l : List Bs) (kf : Bs → Nat), n + i = p.length ∧ T 0 = .sl g 1 (dB p) ∧ T 3 = .mp S.n ∧ T 4 = .lit (.int .i64 (r : Int)) ∧ T 10 = .sl g 1 (dB p) ∧ T 11 = .lit (.int .i64 (p.length : Int)) ∧ T 12 = .lit (.int .i64 (i : Int)) ∧
    r ≤ i ∧ (∀ j, i ≤ j + r → j < i → isL (p.getD j 0#8) = true) ∧ (r < i → isL (p.getD (i - r - 1) 0#8) = false) ∧ RunOk S' S.n S.n p (i - 31) es clock l kf ∧ Keep S S') p.length ?_ ?_
  · refine ⟨0, 0, [], 0, [], fun _ => 0, rfl, rfl, rfl, rfl, rfl, rfl, rfl, Nat.le_refl _, fun j h1 h2 => by omega, fun h => by omega, ⟨push_self _ _, MapOk.nil, Nat.lt_succ_self _, fun s _ => rfl, fun s hs => absurd rfl hs, fun s s' hs => absurd rfl hs⟩, Keep.push _ _⟩
  rintro n T S1 ⟨i, r, es, clock, l, kf, hi, h0, h3, h4, h10, h11, h12, hri, hall, hedge, hrun, hkp⟩
  simp -implicitDefEqProofs (disch := omega) only [seval, go_sem, h0, h3, h4, h10, h11, h12]
  refine cdK_d (fun hb => ?_) (fun hb => ?_)
  · have hlt : i < p.length := by omega
    simp -implicitDefEqProofs (disch := omega) only [seval, go_sem, h0, h3, h4, h10, h11, h12]
    refine c_strings_IndexByte ?_
    simp -implicitDefEqProofs (disch := omega) only [seval, go_sem, h0, h3, h4, h10, h11, h12]
    refine cdK_d (fun hc => ?_) (fun hc => ?_)
    · have hnl : isL (p.getD i 0#8) = false := decide_eq_false (by omega)
      simp -implicitDefEqProofs (disch := omega) only [seval, go_sem, h0, h3, h4, h10, h11, h12]
      refine ⟨n - 1, by omega, i + 1, 0, es, clock, l, kf, by omega, h0, h3, rfl, h10, h11, rfl, by omega, fun j h1 h2 => by omega, fun _ => by rw [show i + 1 - 0 - 1 = i by omega]; exact hnl, ?_, hkp⟩
      by_cases h31 : i < 31
      · rw [show i + 1 - 31 = i - 31 by omega]; exact hrun
      · rw [show i + 1 - 31 = (i - 31) + 1 by omega]
        refine hrun.skip ?_
        cases ho : okB (win p (i - 31))
        · rfl
        · have := (okB_win (by omega)).1 ho i (by omega) (by omega)
          rw [hnl] at this; cases this
    · have hl : isL (p.getD i 0#8) = true := decide_eq_true (by omega)
      have hall' : ∀ j, i + 1 ≤ j + (r + 1) → j < i + 1 → isL (p.getD j 0#8) = true := fun j h1 h2 => by
        rcases Nat.lt_succ_iff_lt_or_eq.1 h2 with h | rfl
        · exact hall j (by omega) h
        · exact hl
      have hedge' : r + 1 < i + 1 → isL (p.getD (i + 1 - (r + 1) - 1) 0#8) = false := fun h => by rw [show i + 1 - (r + 1) - 1 = i - r - 1 by omega]; exact hedge (by omega)
      by_cases h32 : r + 1 < 32
      · simp -implicitDefEqProofs (disch := omega) only [seval, go_sem, h0, h3, h4, h10, h11, h12]
        refine ⟨n - 1, by omega, i + 1, r + 1, es, clock, l, kf, by omega, h0, h3, rfl, h10, h11, rfl, by omega, hall', hedge', ?_, hkp⟩
        by_cases h31 : i < 31
        · rw [show i + 1 - 31 = i - 31 by omega]; exact hrun
        · rw [show i + 1 - 31 = (i - 31) + 1 by omega]
          refine hrun.skip ?_
          cases ho : okB (win p (i - 31))
          · rfl
          · have := (okB_win (by omega)).1 ho (i - r - 1) (by omega) (by omega)
            rw [hedge (by omega)] at this; cases this
      · have hok : okB (win p (i - 31)) = true := (okB_win (by omega)).2 fun j h1 h2 => hall' j (by omega) (by omega)
        have hcs : ((i + 1 : Nat) : Int) - 32 = ((i - 31 : Nat) : Int) := by omega
        have hw : ((p.take (i + 1)).drop (i - 31)) = win p (i - 31) := by
          show _ = (p.drop (i - 31)).take 32
          rw [List.take_drop, show i - 31 + 32 = i + 1 by omega]
        have hkeys : keysOk .string es = true := hrun.mo.ok
        have hob := hrun.o
        have hid := hrun.lid
        have hsl := spotL_len p (i - 31) (win p (i - 31))
        by_cases hemp : spotL p (i - 31) (win p (i - 31)) = []
        · have hlk : lookT (.string (st (win p (i - 31)))) es (.sl .full 0 []) = .sl .full 0 [] := by
            rw [kS_v, look_get, hrun.no _ hemp]; rfl
          simp -implicitDefEqProofs (disch := omega) only [seval, go_sem, h0, h3, h4, h10, h11, h12, hcs, hw, keyB_str, lkT_f, hkeys, hob, hlk]
          obtain ⟨es', clock', l', kf', hrun'⟩ := hrun.note hok (S' := (S1.set S.n (.map (putE (.string (st (win p (i - 31)))) (.sl (.own S1.n) 1 (dI (spotL p (i - 31) (win p (i - 31)) ++ [((i - 31 : Nat) : Int)]))) es clock) (clkE (.string (st (win p (i - 31)))) es clock))).push .lin) hkp.1 rfl
            (ps_at _ _ hid) (ps_new _ _ rfl) (fun s hs hne => by
              obtain ⟨_, _, _, g4, g5⟩ := hrun.yes s hne
              exact ps_old _ _ g4 g5)
          rw [show i - 31 + 1 = i + 1 - 31 by omega] at hrun'
          rw [hemp] at hrun'
          exact ⟨n - 1, by omega, i + 1, r + 1, es', clock', l', kf', by omega, h0, h3, rfl, h10, h11, rfl, by omega, hall', hedge', hrun', (hkp.set (Nat.le_refl _) _).push' _⟩
        · obtain ⟨hgy, hly, hny, hky, hiy⟩ := hrun.yes _ hemp
          have hlk : lookT (.string (st (win p (i - 31)))) es (.sl .full 0 []) = .sl (.own (kf (win p (i - 31)))) 1 (dI (spotL p (i - 31) (win p (i - 31)))) := by
            rw [kS_v, look_get, hgy]; rfl
          simp -implicitDefEqProofs (disch := omega) only [seval, go_sem, h0, h3, h4, h10, h11, h12, hcs, hw, keyB_str, lkT_f, hkeys, hob, hlk, hly]
          obtain ⟨es', clock', l', kf', hrun'⟩ := hrun.note hok (S' := ((S1.set (kf (win p (i - 31))) .gone).set S.n (.map (putE (.string (st (win p (i - 31)))) (.sl (.own S1.n) 1 (dI (spotL p (i - 31) (win p (i - 31)) ++ [((i - 31 : Nat) : Int)]))) es clock) (clkE (.string (st (win p (i - 31)))) es clock))).push .lin) hkp.1 rfl
            (ps_at _ _ hid) (ps_new _ _ rfl) (fun s hs hne => by
              obtain ⟨_, _, _, g4, g5⟩ := hrun.yes s hne
              exact (ps_old (S := S1.set _ _) _ _ g4 g5).trans (st_old _ fun e => hs (hrun.inj _ _ hne hemp e)))
          rw [show i - 31 + 1 = i + 1 - 31 by omega] at hrun'
          rw [dI_app] at hrun'
          exact ⟨n - 1, by omega, i + 1, r + 1, es', clock', l', kf', by omega, h0, h3, rfl, h10, h11, rfl, by omega, hall', hedge', hrun', ((hkp.set hny _).set (Nat.le_refl _) _).push' _⟩
  · simp -implicitDefEqProofs (disch := omega) only [seval, go_sem, h0, h3, h4, h10, h11, h12]
    have e : i = p.length := by omega
    subst e
    exact hK _ _ _ _ _ hrun hkp
end Go.Proofs.YtiijiejncefpmaaDoor
namespace Go.Proofs.YtiijiejncefpmaaDoor
open Go.RowKit TL

theorem TCall.truncR {f : FuncId} {args : List TV} {S : TS} {e s len : Nat} {cs : List TV} (m : Nat)
    (h : TCall env f args S fun t S' => ∃ id, t = .vs id 0 s len ∧ S.n ≤ id ∧ S'.objs id = .cells e cs ∧ Keep S S') :
    TCall env f args S fun t S' => ∃ id, t = .vs id 0 s len ∧ S.n ≤ id ∧ S'.objs id = .cells e (cs.take m) ∧ Keep S S' := by
  intro w0 c w vs hk hv
  refine (h w0 c w vs hk hv).mono ?_
  rintro v w' ⟨t, c1, S1, h1, h2, h3, id, rfl, h5, h6, h7⟩
  exact ⟨_, c1, _, h1.step (h1.rel.trunc h6 m) (Mono.refl _ _), h2, h3, id, rfl, h5, by rw [TS.set_objs, if_pos rfl], h7.set h5 _⟩
theorem splitA_ok {s : Bs} (h : isP s = true) : (splitA s).length = 32 ∧ okB (splitA s) = true := by
  unfold isP at h
  unfold splitA
  unfold splitS at h ⊢
  split at h
  · rename_i h1
    rw [if_pos h1]
    obtain ⟨h1, h2, h3, h4⟩ := h1
    exact ⟨by rw [List.length_take]; omega, h4⟩
  · cases h
def spots (p path : Bs) : List Int := if isP path = true then spotL p (p.length - 31) (splitA path) else []
def finds (p : Bs) (paths : List Bs) : List Bs := paths.filter fun x => !(spots p x).isEmpty
theorem spots_len (p path : Bs) : (spots p path).length ≤ p.length := by
  unfold spots
  split
  · have := spotL_len p (p.length - 31) (splitA path); omega
  · simp
set_option maxRecDepth 8000 in
set_option maxHeartbeats 1000000 in
theorem c_scan_Spots {S : TS} {g : Tag} {p s : Bs} {K : TV → TS → Prop} (hK : K (.sl (.own S.n) 1 (dI (spots p s))) (S.push .lin)) (hs : s.length ≤ 100000 := by omega) (hp : p.length ≤ 1000000 := by omega) :
    TCall env 27 [.sl g 1 (dB p), .lit (.string (st s))] S K := by
  refine (TCall.rowE (s := 1) (xs := dI (spots p s)) ?_).mono fun t S' ⟨h1, h2⟩ => by rw [h1, h2]; exact hK
  refine TCall.w 20 [.tmp 4] Tryd.func27 rfl rfl rfl rfl (by kernel_rfl) rfl ?_
  simp -implicitDefEqProofs (disch := omega) only [seval, go_sem]
  refine c_name_Split ?_
  rw [splitV_eq]
  cases hP : isP s
  · simp -implicitDefEqProofs (disch := omega) only [seval, go_sem]
    refine ⟨.inr ⟨by rw [spots, hP]; rfl, _, rfl⟩, Keep.refl _⟩
  simp -implicitDefEqProofs (disch := omega) only [seval, go_sem]
  refine c_scan_runs fun S' es clock l kf hrun hkp => ?_
  have hkeys : keysOk .string es = true := hrun.mo.ok
  have hob := hrun.o
  have hsp : spots p s = spotL p (p.length - 31) (splitA s) := by rw [spots, hP]; rfl
  by_cases hemp : spotL p (p.length - 31) (splitA s) = []
  · have hlk : lookT (.string (st (splitA s))) es (.sl .full 0 []) = .sl .full 0 [] := by
      rw [kS_v, look_get, hrun.no _ hemp]; rfl
    simp -implicitDefEqProofs (disch := omega) only [seval, go_sem, keyB_str, lkT_f, hkeys, hob, hlk]
    exact ⟨.inr ⟨by rw [hsp, hemp]; rfl, _, rfl⟩, hkp⟩
  · obtain ⟨hgy, hly, hny, hky, hiy⟩ := hrun.yes _ hemp
    have hlk : lookT (.string (st (splitA s))) es (.sl .full 0 []) = .sl (.own (kf (splitA s))) 1 (dI (spotL p (p.length - 31) (splitA s))) := by
      rw [kS_v, look_get, hgy]; rfl
    simp -implicitDefEqProofs (disch := omega) only [seval, go_sem, keyB_str, lkT_f, hkeys, hob, hlk]
    exact ⟨.inl ⟨_, by rw [hsp], hny, hly⟩, hkp⟩
set_option maxRecDepth 8000 in
set_option maxHeartbeats 1000000 in
theorem c_godownref08_Spots {S : TS} {g : Tag} {p s : Bs} {K : TV → TS → Prop} (hK : K (.sl (.own S.n) 1 (dI (spots p s))) (S.push .lin)) (hs : s.length ≤ 100000 := by omega) (hp : p.length ≤ 1000000 := by omega) :
    TCall env 28 [.sl g 1 (dB p), .lit (.string (st s))] S K := by
  refine (TCall.rowE (s := 1) (xs := dI (spots p s)) ?_).mono fun t S' ⟨h1, h2⟩ => by rw [h1, h2]; exact hK
  refine TCall.w 43 [.tmp 4] Tryd.func28 rfl rfl rfl rfl (by kernel_rfl) rfl ?_
  simp -implicitDefEqProofs (disch := omega) only [seval, go_sem]
  refine c_godownref07_Split ?_
  rw [splitV_eq]
  cases hP : isP s
  · simp -implicitDefEqProofs (disch := omega) only [seval, go_sem]
    refine loW_inv (fun n T S' => T 7 = .lit (.bool false) ∧ T 8 = .sl .full 0 [] ∧ S' = S) 0 ⟨rfl, rfl, rfl⟩ ?_
    rintro n T S1 ⟨h7, h8, rfl⟩
    simp -implicitDefEqProofs (disch := omega) only [seval, go_sem, h7, h8]
    exact ⟨.inr ⟨by rw [spots, hP]; rfl, _, rfl⟩, Keep.refl _⟩
  obtain ⟨hAl, hAo⟩ := splitA_ok hP
  have hsp : spots p s = spotL p (p.length - 31) (splitA s) := by rw [spots, hP]; rfl
  generalize splitA s = a at *
  simp -implicitDefEqProofs (disch := omega) only [seval, go_sem]
  refine loW.asRow 8 1 rfl (.inl rfl) ?_
  refine loW_inv (fun n T S' => ∃ (i k : Nat), n + i = p.length + 1 ∧ T 0 = .sl g 1 (dB p) ∧ T 5 = .lit (.string (st a)) ∧ T 7 = .lit (.bool true) ∧ T 8 = .sl (.own k) 1 (dI (spotL p i a)) ∧ T 9 = .lit (.int .i64 (i : Int)) ∧
    i ≤ p.length - 31 ∧ S'.objs k = .lin ∧ S.n ≤ k ∧ Keep S S') (p.length + 1) ?_ ?_
  · exact ⟨0, S.n, rfl, rfl, rfl, rfl, rfl, rfl, Nat.zero_le _, push_self _ _, Nat.le_refl _, Keep.push _ _⟩
  rintro n T S1 ⟨i, k, hi, h0, h5, h7, h8, h9, hin, hk, hkn, hkp⟩
  have hsl := spotL_len p i a
  simp -implicitDefEqProofs (disch := omega) only [seval, go_sem, h0, h5, h7, h8, h9, hAl]
  refine cdK_d (fun hb => ?_) (fun hb => ?_)
  · have hlt : i + 32 ≤ p.length := by omega
    have hw : (p.take (i + 32)).drop i = win p i := by
      show _ = (p.drop i).take 32
      rw [List.take_drop]
    by_cases hwa : win p i = a
    · simp -implicitDefEqProofs (disch := omega) only [seval, go_sem, h0, h5, h7, h8, h9, hAl, hw]
      refine ⟨n - 1, by omega, i + 1, S1.n, by omega, h0, h5, h7, ?_, rfl, by omega, push_self (S1.set k .gone) _, hkp.1, (hkp.set hkn _).push' _⟩
      show TV.sl _ _ _ = _
      rw [spotL_succ, if_pos ⟨hwa, hAo⟩, dI_app]; rfl
    · simp -implicitDefEqProofs (disch := omega) only [seval, go_sem, h0, h5, h7, h8, h9, hAl, hw]
      refine ⟨n - 1, by omega, i + 1, k, by omega, h0, h5, h7, ?_, rfl, by omega, hk, hkn, hkp⟩
      rw [spotL_succ, if_neg (fun h => hwa h.1), List.append_nil]; exact h8
  · have e : i = p.length - 31 := by omega
    subst e
    simp -implicitDefEqProofs (disch := omega) only [seval, go_sem, h0, h5, h7, h8, h9, hAl]
    exact ⟨.inl ⟨_, by rw [hsp], hkn, hk⟩, hkp⟩
theorem rls_eq (l : List Bs) (m : Nat) : (compB l ++ List.replicate m []).take (compB l).length = compB l := List.take_left' rfl
set_option maxRecDepth 8000 in
set_option maxHeartbeats 1000000 in
theorem c_scan_Find {S : TS} {g g2 : Tag} {p : Bs} {l : List Bs} {K : TV → TS → Prop} (hK : K (.sl (.own S.n) 1 (dT (riseL (finds p l)))) (S.push .lin)) (hs : ∀ s ∈ l, s.length ≤ 100000) (hl : l.length ≤ 100000 := by omega) (hp : p.length ≤ 1000000 := by omega) :
    TCall env 30 [.sl g 1 (dB p), .sl g2 1 (dT l)] S K := by
  have hrl : (riseL (finds p l)).length ≤ 100000 := by
    rw [← comp_sort]
    have h1 := compB_len (sortB (finds p l))
    rw [sortB_len] at h1
    have h2 : (finds p l).length ≤ l.length := List.length_filter_le _ _
    omega
  refine (TCall.freeze (e := 9) (s := 1) (len := (riseL (finds p l)).length) (ag := false) (cs := cellsD (dT (riseL (finds p l)))) (ds := dT (riseL (finds p l))) ?_ (by rw [cT_len, Nat.mul_one]) (fun S' id ho => ?_)).mono fun t S' ⟨h1, h2⟩ => by rw [h1, h2]; exact hK
  rotate_left
  · exact srcD_F (fun s : Bs => Value.string (st s)) (fun _ => rfl) ho rfl (by show _ ≤ 140737488355328; omega)
  have htr := fun h => TCall.truncR (f := 30) (args := [.sl g 1 (dB p), .sl g2 1 (dT l)]) (S := S) (e := 9) (s := 1) (len := (riseL (finds p l)).length)
    (cs := cellsD (dT (compB (sortB (finds p l)) ++ List.replicate ((sortB (finds p l)).length - (compB (sortB (finds p l))).length) []))) (riseL (finds p l)).length h
  rw [cT_take, ← comp_sort, rls_eq] at htr
  rw [← comp_sort]
  refine htr ?_
  refine TCall.w 43 [.tmp 4] Tryd.func30 rfl rfl rfl rfl (by kernel_rfl) rfl ?_
  simp -implicitDefEqProofs (disch := omega) only [seval, go_sem]
  refine c_scan_runs fun S0 es clock ks kf hrun hkp => ?_
  simp -implicitDefEqProofs (disch := omega) only [seval, go_sem]
  refine loW.asBuf 6 9 1 rfl ?_
  have hkeys : keysOk .string es = true := hrun.mo.ok
  refine loW_inv (fun n T S' => ∃ (i k : Nat), n + i = l.length ∧ T 5 = .mp S.n ∧ T 6 = .vs k 0 1 (finds p (l.take i)).length ∧ T 14 = .sl g2 1 (dT l) ∧ T 15 = .lit (.int .i64 (l.length : Int)) ∧ T 16 = .lit (.int .i64 (i : Int)) ∧
    S'.objs k = .cells 9 (cellsD (dT (finds p (l.take i)))) ∧ S0.n ≤ k ∧ Keep S0 S') l.length ?_ ?_
  · exact ⟨0, S0.n, rfl, rfl, rfl, rfl, rfl, rfl, push_self _ _, Nat.le_refl _, Keep.push _ _⟩
  rintro n T S1 ⟨i, k, hi, h5, h6, h14, h15, h16, ho, hkn, hkp2⟩
  have hfl : (finds p (l.take i)).length ≤ i := by
    have : (finds p (l.take i)).length ≤ (l.take i).length := List.length_filter_le _ _
    rw [List.length_take] at this; omega
  simp -implicitDefEqProofs (disch := omega) only [seval, go_sem, h5, h6, h14, h15, h16]
  refine cdK_d (fun hb => ?_) (fun hb => ?_)
  · have hlt : i < l.length := by omega
    have hsl : (l.getD i []).length ≤ 100000 := hs _ (getD_mem hlt)
    have htk : l.take (i + 1) = l.take i ++ [l.getD i []] := by rw [List.take_add_one, List.getD_eq_getElem?_getD, List.getElem?_eq_getElem hlt]; rfl
    generalize hx : l.getD i [] = x at *
    have hfs : finds p (l.take (i + 1)) = finds p (l.take i) ++ if (spots p x).isEmpty = true then [] else [x] := by
      rw [htk, finds, List.filter_append]
      show _ = List.filter _ _ ++ _
      congr 1
      cases h : (spots p x).isEmpty <;> simp [h]
    have hob : S1.objs S.n = .map es clock := by rw [hkp2.2 _ hrun.lid]; exact hrun.o
    simp -implicitDefEqProofs (disch := omega) only [seval, go_sem, h5, h6, h14, h15, h16, hx]
    refine c_name_Split ?_
    rw [splitV_eq]
    cases hP : isP x
    · simp -implicitDefEqProofs (disch := omega) only [seval, go_sem, h5, h6, h14, h15, h16, hx]
      refine ⟨n - 1, by omega, i + 1, k, by omega, h5, ?_, h14, h15, rfl, ?_, hkn, hkp2⟩
      · rw [hfs, show spots p x = [] by rw [spots, hP]; rfl]; exact h6.trans (by simp)
      · rw [hfs, show spots p x = [] by rw [spots, hP]; rfl]; exact ho.trans (by simp)
    have hsp : spots p x = spotL p (p.length - 31) (splitA x) := by rw [spots, hP]; rfl
    by_cases hemp : spotL p (p.length - 31) (splitA x) = []
    · have hlk : lookT (.string (st (splitA x))) es (.sl .full 0 []) = .sl .full 0 [] := by
        rw [kS_v, look_get, hrun.no _ hemp]; rfl
      simp -implicitDefEqProofs (disch := omega) only [seval, go_sem, h5, h6, h14, h15, h16, hx, keyB_str, lkT_f, hkeys, hob, hlk]
      refine ⟨n - 1, by omega, i + 1, k, by omega, h5, ?_, h14, h15, rfl, ?_, hkn, hkp2⟩
      · rw [hfs, hsp, hemp]; exact h6.trans (by simp)
      · rw [hfs, hsp, hemp]; exact ho.trans (by simp)
    · obtain ⟨hgy, hly, hny, hky, hiy⟩ := hrun.yes _ hemp
      have hlk : lookT (.string (st (splitA x))) es (.sl .full 0 []) = .sl (.own (kf (splitA x))) 1 (dI (spotL p (p.length - 31) (splitA x))) := by
        rw [kS_v, look_get, hgy]; rfl
      have hpos : 0 < (spotL p (p.length - 31) (splitA x)).length := List.length_pos_iff.2 hemp
      have hple := spotL_len p (p.length - 31) (splitA x)
      simp -implicitDefEqProofs (disch := omega) only [seval, go_sem, h5, h6, h14, h15, h16, hx, keyB_str, lkT_f, hkeys, hob, hlk, ho]
      have he : (spots p x).isEmpty = false := by rw [hsp]; cases h : spotL p (p.length - 31) (splitA x) <;> simp_all
      rw [he] at hfs
      refine ⟨n - 1, by omega, i + 1, S1.n, by omega, h5, ?_, h14, h15, rfl, ?_, hkp2.1, (hkp2.set hkn _).push' _⟩
      · rw [hfs]; show TV.vs _ _ _ _ = _; simp
      · refine (push_self (S1.set k .gone) _).trans ?_
        rw [hfs]; show TObj.cells _ (_ ++ cellsD (dT [x])) = _; rw [cT_app]; rfl
  · have e : i = l.length := by omega
    subst e
    rw [List.take_length] at *
    simp -implicitDefEqProofs (disch := omega) only [seval, go_sem, h5, h6, h14, h15, h16]
    refine c_slices_Sort ho rfl ?_ (by omega)
    simp -implicitDefEqProofs (disch := omega) only [seval, go_sem, h5, h6, h14, h15, h16]
    refine c_slices_Compact (l := sortB (finds p l)) (by rw [TS.set_objs, if_pos rfl]) (sortB_len _).symm ?_ (by rw [sortB_len]; omega)
    simp -implicitDefEqProofs (disch := omega) only [seval, go_sem]
    have hsn := hkp.1
    exact ⟨k, rfl, by omega, by rw [TS.set_objs, if_pos rfl, sortB_len], ((hkp.trans hkp2).set (by omega) _).set (by omega) _⟩
set_option maxRecDepth 8000 in
set_option maxHeartbeats 1000000 in
theorem c_godownref08_Find {S : TS} {g g2 : Tag} {p : Bs} {l : List Bs} {K : TV → TS → Prop} (hK : K (.sl (.own S.n) 1 (dT (riseL (finds p l)))) (S.push .lin)) (hs : ∀ s ∈ l, s.length ≤ 100000) (hl : l.length ≤ 100000 := by omega) (hp : p.length ≤ 1000000 := by omega) :
    TCall env 31 [.sl g 1 (dB p), .sl g2 1 (dT l)] S K := by
  refine (TCall.rowE (s := 1) (xs := dT (riseL (finds p l))) ?_).mono fun t S' ⟨h1, h2⟩ => by rw [h1, h2]; exact hK
  refine TCall.w 30 [.tmp 4] Tryd.func31 rfl rfl rfl rfl (by kernel_rfl) rfl ?_
  simp -implicitDefEqProofs (disch := omega) only [seval, go_sem]
  refine loW.asRow 5 1 rfl (.inl rfl) ?_
  refine loW_inv (fun n T S' => ∃ (i k : Nat), n + i = l.length ∧ T 0 = .sl g 1 (dB p) ∧ T 1 = .sl g2 1 (dT l) ∧ T 5 = .sl (.own k) 1 (dT (finds p (l.take i))) ∧ T 6 = .lit (.int .i64 (i : Int)) ∧
    S'.objs k = .lin ∧ S.n ≤ k ∧ Keep S S') l.length ?_ ?_
  · exact ⟨0, S.n, rfl, rfl, rfl, rfl, rfl, push_self _ _, Nat.le_refl _, Keep.push _ _⟩
  rintro n T S1 ⟨i, k, hi, h0, h1, h5, h6, ho, hkn, hkp⟩
  have hfl : (finds p (l.take i)).length ≤ i := by
    have : (finds p (l.take i)).length ≤ (l.take i).length := List.length_filter_le _ _
    rw [List.length_take] at this; omega
  simp -implicitDefEqProofs (disch := omega) only [seval, go_sem, h0, h1, h5, h6]
  refine cdK_d (fun hb => ?_) (fun hb => ?_)
  · have hlt : i < l.length := by omega
    have hsl : (l.getD i []).length ≤ 100000 := hs _ (getD_mem hlt)
    have htk : l.take (i + 1) = l.take i ++ [l.getD i []] := by rw [List.take_add_one, List.getD_eq_getElem?_getD, List.getElem?_eq_getElem hlt]; rfl
    generalize hx : l.getD i [] = x at *
    have hfs : finds p (l.take (i + 1)) = finds p (l.take i) ++ if (spots p x).isEmpty = true then [] else [x] := by
      rw [htk, finds, List.filter_append]
      show _ = List.filter _ _ ++ _
      congr 1
      cases h : (spots p x).isEmpty <;> simp [h]
    have hsl2 := spots_len p x
    have hk1 : (S1.push .lin).objs k = .lin := by
      by_cases hk : k = S1.n
      · rw [hk]; exact push_self _ _
      · rw [push_sel, sel_ne hk]; exact ho
    simp -implicitDefEqProofs (disch := omega) only [seval, go_sem, h0, h1, h5, h6, hx]
    refine c_godownref08_Spots ?_
    simp -implicitDefEqProofs (disch := omega) only [seval, go_sem, h0, h1, h5, h6, hx]
    refine cdK_d (fun hc => ?_) (fun hc => ?_)
    · have he : (spots p x).isEmpty = false := by cases h : spots p x <;> simp_all
      rw [he] at hfs
      simp -implicitDefEqProofs (disch := omega) only [seval, go_sem, h0, h1, h5, h6, hx, hk1]
      rw [← push_setP]
      refine ⟨n - 1, by omega, i + 1, S1.n + 1, by omega, h0, h1, ?_, rfl, push_self ((S1.push .lin).set k .gone) _, by have := hkp.1; omega, ((hkp.push' _).set hkn _).push' _⟩
      rw [hfs]; show TV.sl _ _ (_ ++ dT [x]) = _; rw [dT_app]; rfl
    · have he : (spots p x).isEmpty = true := by cases h : spots p x <;> simp_all
      rw [he] at hfs
      simp -implicitDefEqProofs (disch := omega) only [seval, go_sem, h0, h1, h5, h6, hx]
      refine ⟨n - 1, by omega, i + 1, k, by omega, h0, h1, ?_, rfl, hk1, hkn, hkp.push' _⟩
      rw [hfs]; exact h5.trans (by simp)
  · have e : i = l.length := by omega
    subst e
    rw [List.take_length] at *
    simp -implicitDefEqProofs (disch := omega) only [seval, go_sem, h0, h1, h5, h6]
    refine c_godownref01_Rise ?_
    simp -implicitDefEqProofs (disch := omega) only [seval, go_sem]
    exact ⟨.inl ⟨_, rfl, hkp.1, push_self _ _⟩, hkp.push' _⟩
end Go.Proofs.YtiijiejncefpmaaDoor
namespace Go.Proofs.YtiijiejncefpmaaDoor
open Go.RowKit TL
def pth6 (n : BitVec 8) : Bs := pthN (n % 6#8)
def ltrN (b : BitVec 8) : Bs := ltrP [UInt8.toBitVec 110] [b] []
theorem pthN_eq (b : BitVec 8) : pthN b = ltrN b ++ 45#8 :: [UInt8.toBitVec 110] := rfl
theorem ltrN_len (b : BitVec 8) : (ltrN b).length = 32 := ltrP_len _ _ _
theorem ltrN_ok (b : BitVec 8) : okB (ltrN b) = true := txtS_ok _
theorem splitA_of {s a b : Bs} (h : splitS s = some (a, b)) : splitA s = a := by rw [splitA, h]
theorem splitA_pthN (b : BitVec 8) : splitA (pthN b) = ltrN b := splitA_of (split_mkP right_n)
theorem dga_sha : sha [0x01#8] = [0x4b#8, 0xf5#8, 0x12#8, 0x2f#8, 0x34#8, 0x45#8, 0x54#8, 0xc5#8, 0x3b#8, 0xde#8, 0x2e#8, 0xbb#8, 0x8c#8, 0xd2#8, 0xb7#8, 0xe3#8, 0xd1#8, 0x60#8, 0x0a#8, 0xd6#8, 0x31#8, 0xc3#8, 0x85#8, 0xa5#8, 0xd7#8, 0xcc#8, 0xe2#8, 0x3c#8, 0x77#8, 0x85#8, 0x45#8, 0x9a#8] := by decide +kernel
theorem dgb_sha : sha [0x00#8, 0x20#8, 0x4b#8, 0xf5#8, 0x12#8, 0x2f#8, 0x34#8, 0x45#8, 0x54#8, 0xc5#8, 0x3b#8, 0xde#8, 0x2e#8, 0xbb#8, 0x8c#8, 0xd2#8, 0xb7#8, 0xe3#8, 0xd1#8, 0x60#8, 0x0a#8, 0xd6#8, 0x31#8, 0xc3#8, 0x85#8, 0xa5#8, 0xd7#8, 0xcc#8, 0xe2#8, 0x3c#8, 0x77#8, 0x85#8, 0x45#8, 0x9a#8, 0x00#8, 0x00#8, 0x01#8, 0x6e#8] = [0xcc#8, 0x31#8, 0xa3#8, 0x0c#8, 0x7d#8, 0xf6#8, 0xaa#8, 0x2c#8, 0x6d#8, 0xbb#8, 0xb2#8, 0xf2#8, 0xfa#8, 0x9d#8, 0xa0#8, 0xb2#8, 0x65#8, 0x07#8, 0x63#8, 0x7d#8, 0x13#8, 0x9a#8, 0xfe#8, 0x8e#8, 0x25#8, 0xfe#8, 0xc2#8, 0xd0#8, 0x6b#8, 0xfe#8, 0x5f#8, 0x55#8] := by decide +kernel
theorem fold_d2 : fold20 [0xcc#8, 0x31#8, 0xa3#8, 0x0c#8, 0x7d#8, 0xf6#8, 0xaa#8, 0x2c#8, 0x6d#8, 0xbb#8, 0xb2#8, 0xf2#8, 0xfa#8, 0x9d#8, 0xa0#8, 0xb2#8, 0x65#8, 0x07#8, 0x63#8, 0x7d#8, 0x13#8, 0x9a#8, 0xfe#8, 0x8e#8, 0x25#8, 0xfe#8, 0xc2#8, 0xd0#8, 0x6b#8, 0xfe#8, 0x5f#8, 0x55#8] = [0xdf#8, 0xab#8, 0x5d#8, 0x82#8, 0x58#8, 0x08#8, 0x68#8, 0xfc#8, 0x06#8, 0x45#8, 0xed#8, 0xa7#8, 0xfa#8, 0x9d#8, 0xa0#8, 0xb2#8, 0x65#8, 0x07#8, 0x63#8, 0x7d#8] := by decide +kernel
theorem txt_d3 : (txtS [0xdf#8, 0xab#8, 0x5d#8, 0x82#8, 0x58#8, 0x08#8, 0x68#8, 0xfc#8, 0x06#8, 0x45#8, 0xed#8, 0xa7#8, 0xfa#8, 0x9d#8, 0xa0#8, 0xb2#8, 0x65#8, 0x07#8, 0x63#8, 0x7d#8]).take 2 = [0x76#8, 0x79#8] := by decide +kernel
theorem ltr_one2 : (ltrN 1#8).take 2 = [0x76#8, 0x79#8] := by
  show (txtS (fold20 (sha (text2 (sha [1#8]) ++ texts2 [] ++ text2 [UInt8.toBitVec 110])))).take 2 = _
  rw [show [1#8] = [0x01#8] from rfl, dga_sha, show text2 [0x4b#8, 0xf5#8, 0x12#8, 0x2f#8, 0x34#8, 0x45#8, 0x54#8, 0xc5#8, 0x3b#8, 0xde#8, 0x2e#8, 0xbb#8, 0x8c#8, 0xd2#8, 0xb7#8, 0xe3#8, 0xd1#8, 0x60#8, 0x0a#8, 0xd6#8, 0x31#8, 0xc3#8, 0x85#8, 0xa5#8, 0xd7#8, 0xcc#8, 0xe2#8, 0x3c#8, 0x77#8, 0x85#8, 0x45#8, 0x9a#8] ++ texts2 [] ++ text2 [UInt8.toBitVec 110] = [0x00#8, 0x20#8, 0x4b#8, 0xf5#8, 0x12#8, 0x2f#8, 0x34#8, 0x45#8, 0x54#8, 0xc5#8, 0x3b#8, 0xde#8, 0x2e#8, 0xbb#8, 0x8c#8, 0xd2#8, 0xb7#8, 0xe3#8, 0xd1#8, 0x60#8, 0x0a#8, 0xd6#8, 0x31#8, 0xc3#8, 0x85#8, 0xa5#8, 0xd7#8, 0xcc#8, 0xe2#8, 0x3c#8, 0x77#8, 0x85#8, 0x45#8, 0x9a#8, 0x00#8, 0x00#8, 0x01#8, 0x6e#8] by decide +kernel, dgb_sha, fold_d2, txt_d3]
theorem ltr_one : (ltrN 1#8).getD 0 0#8 ≠ 97#8 ∧ (ltrN 1#8).getD 0 0#8 ≠ 98#8 := by
  have h : ((ltrN 1#8).take 2).getD 0 0#8 = (ltrN 1#8).getD 0 0#8 := by simp [List.getD_eq_getElem?_getD, List.getElem?_take]
  rw [← h, ltr_one2]; decide
end Go.Proofs.YtiijiejncefpmaaDoor
namespace Go.Proofs.YtiijiejncefpmaaDoor
open Go.RowKit TL

set_option maxRecDepth 8000 in
set_option maxHeartbeats 1000000 in
theorem c_godownlaw08_path {S : TS} {n : BitVec 8} {K : TV → TS → Prop} (hK : K (.lit (.string (st (pth6 n)))) S) : TCall env 25 [.lit (w8 n)] S K := by
  refine (TCall.pure (r := .lit (.string (st (pth6 n)))) ?_ (.lit _)).mono fun t S' ⟨h1, h2⟩ => by rw [h1, h2]; exact hK
  refine TCall.w 14 [.tmp 2] Tryd.func25 rfl rfl rfl rfl (by kernel_rfl) rfl ?_
  simp -implicitDefEqProofs (disch := omega) only [seval, go_sem]
  refine c_New ?_
  simp -implicitDefEqProofs (disch := omega) only [seval, go_sem]
  refine c_ref07_Make0 (ar := [n % 6#8]) ?_ right_n (by simp)
  simp -implicitDefEqProofs (disch := omega) only [seval, go_sem]
  exact ⟨rfl, Keep.refl _⟩
theorem spots_found : spots ([UInt8.toBitVec 97, UInt8.toBitVec 98] ++ pthN 1#8) (pthN 1#8) = [2] := by
  have h32 := ltrN_len 1#8
  have hok := ltrN_ok 1#8
  obtain ⟨ha, hb⟩ := ltr_one
  rw [spots, if_pos (pthN_isP _), splitA_pthN, show ([UInt8.toBitVec 97, UInt8.toBitVec 98] ++ pthN 1#8).length - 31 = 5 by rw [List.length_append, pthN_len]; rfl, pthN_eq]
  generalize ltrN 1#8 = a at *
  show spotL ([97#8, 98#8] ++ (a ++ [45#8, 110#8])) 5 a = [2]
  match a, h32 with
  | c :: a', h32 =>
    have h31 : a'.length = 31 := by simpa using h32
    have g (i : Nat) (hi : i < 5) (k : Nat) (e : win ([97#8, 98#8] ++ (c :: a' ++ [45#8, 110#8])) i = c :: a') (hk : k < 32) : ([97#8, 98#8] ++ (c :: a' ++ [45#8, 110#8])).getD (i + k) 0#8 = (c :: a').getD k 0#8 := by
      rw [← win_get (by simp; omega) hk, e]
    have n0 : win ([97#8, 98#8] ++ (c :: a' ++ [45#8, 110#8])) 0 ≠ c :: a' := fun e => ha (by have := g 0 (by omega) 0 e (by omega); exact this.symm)
    have n1 : win ([97#8, 98#8] ++ (c :: a' ++ [45#8, 110#8])) 1 ≠ c :: a' := fun e => hb (by have := g 1 (by omega) 0 e (by omega); exact this.symm)
    have y2 : win ([97#8, 98#8] ++ (c :: a' ++ [45#8, 110#8])) 2 = c :: a' := by
      show (c :: a' ++ [45#8, 110#8]).take 32 = _
      rw [List.take_append_of_le_length (by simp; omega), List.take_of_length_le (by simp; omega)]
    have hyp : (a' ++ [45#8, 110#8]).getD 31 0#8 = 45#8 := by
      rw [List.getD_eq_getElem?_getD, List.getElem?_append_right (by omega), h31]; rfl
    have bad : isL 45#8 = false := by decide
    have n3 : win ([97#8, 98#8] ++ (c :: a' ++ [45#8, 110#8])) 3 ≠ c :: a' := fun e => by
      have e1 := g 3 (by omega) 31 e (by omega)
      have e2 := (okB_all.1 hok) 31 (by rw [h32]; omega)
      rw [← e1] at e2
      have : ([97#8, 98#8] ++ (c :: a' ++ [45#8, 110#8])).getD (3 + 31) 0#8 = 45#8 := hyp
      rw [this, bad] at e2; cases e2
    have n4 : win ([97#8, 98#8] ++ (c :: a' ++ [45#8, 110#8])) 4 ≠ c :: a' := fun e => by
      have e1 := g 4 (by omega) 30 e (by omega)
      have e2 := (okB_all.1 hok) 30 (by rw [h32]; omega)
      rw [← e1] at e2
      have : ([97#8, 98#8] ++ (c :: a' ++ [45#8, 110#8])).getD (4 + 30) 0#8 = 45#8 := hyp
      rw [this, bad] at e2; cases e2
    rw [spotL_succ, spotL_succ, spotL_succ, spotL_succ, spotL_succ, if_neg (fun h => n0 h.1), if_neg (fun h => n1 h.1), if_pos ⟨y2, hok⟩, if_neg (fun h => n3 h.1), if_neg (fun h => n4 h.1)]
    rfl
set_option maxRecDepth 8000 in
set_option maxHeartbeats 1000000 in
theorem c_godownlaw08_found {S : TS} {K : TV → TS → Prop} (hK : K (.lit (.bool true)) S) : TCall env 22 [] S K := by
  refine (TCall.pure (r := .lit (.bool true)) ?_ (.lit _)).mono fun t S' ⟨h1, h2⟩ => by rw [h1, h2]; exact hK
  refine TCall.w 35 [.tmp 0] Tryd.func22 rfl rfl rfl rfl (by kernel_rfl) rfl ?_
  have h34 := pthN_len 1#8
  simp -implicitDefEqProofs (disch := omega) only [seval, go_sem]
  refine c_New ?_
  simp -implicitDefEqProofs (disch := omega) only [seval, go_sem]
  refine c_ref07_Make0 (ar := [1#8]) ?_ right_n (by simp)
  obtain ⟨x, hx⟩ : ∃ x, mkP [UInt8.toBitVec 110] [1#8] [] = x := ⟨_, rfl⟩
  have hx' : pthN 1#8 = x := hx
  have hsp := spots_found
  rw [hx'] at h34 hsp
  rw [hx]
  have h2 : ([UInt8.toBitVec 97, UInt8.toBitVec 98] : Bs).length = 2 := rfl
  have hd : dI (spots ([UInt8.toBitVec 97, UInt8.toBitVec 98] ++ x) x) = dI [2] := by rw [hsp]
  simp -implicitDefEqProofs (disch := omega) only [seval, go_sem, h34]
  refine c_scan_Spots (s := x) ?_ (by omega) (by rw [List.length_append, h34]; simp)
  rw [hd]
  have hd2 : (dI [2]).getD 0 default = .lit (.int .i64 2) := rfl
  simp -implicitDefEqProofs (disch := omega) only [seval, go_sem, h34, hd2]
  refine .argL (.empty (.same .nil)) (c_scan_Find (g := .full) (p := []) (l := [x]) ?_ (fun s hs => by rw [List.mem_singleton.1 hs]; omega) (by simp) (by simp))
  have hf0 : (riseL (finds [] [x])).length = 0 := by
    have : finds [] [x] = [] := by
      have : spots [] x = [] := by rw [spots]; split <;> rfl
      rw [finds, List.filter_cons, this]; rfl
    rw [this]; rfl
  simp -implicitDefEqProofs (disch := omega) only [seval, go_sem, hf0]
  exact ⟨rfl, ((Keep.push _ _).push' _).push' _⟩
/-- A part: bytes, a path's number, where it is cut. -/
abbrev Part := Bs × BitVec 8 × BitVec 8
def pD (x : Part) : D := .agg [.sl 1 (dB x.1), .lit (w8 x.2.1), .lit (w8 x.2.2)]
def dP (l : List Part) : List D := l.map pD
theorem dP_len (l : List Part) : (dP l).length = l.length := List.length_map _
theorem dP_get {l : List Part} {i : Nat} (h : i < l.length) : (dP l).getD i default = pD (l.getD i default) := by
  rw [dP, List.getD_eq_getElem?_getD, List.getElem?_map, List.getD_eq_getElem?_getD, List.getElem?_eq_getElem h]; rfl
theorem pD_mk (a : Bs) (b c : BitVec 8) : pD (a, b, c) = .agg [.sl 1 (dB a), .lit (w8 b), .lit (w8 c)] := rfl
def smallP (l : List Part) : Bool := l.all (fun x => decide (x.1.length ≤ 40)) && decide (l.length ≤ 8)
set_option maxRecDepth 8000 in
set_option maxHeartbeats 1000000 in
theorem c_godownlaw08_small {S : TS} {g : Tag} {l : List Part} {K : TV → TS → Prop} (hK : K (.lit (.bool (smallP l))) S) (hl : l.length ≤ 140737488355328 := by omega) (hb : ∀ x ∈ l, x.1.length ≤ 140737488355328) : TCall env 23 [.sl g 3 (dP l)] S K := by
  refine (TCall.pure (r := .lit (.bool (smallP l))) ?_ (.lit _)).mono fun t S' ⟨h1, h2⟩ => by rw [h1, h2]; exact hK
  refine TCall.w 20 [.tmp 2] Tryd.func23 rfl rfl rfl rfl (by kernel_rfl) rfl ?_
  have hlen := dP_len l
  simp -implicitDefEqProofs (disch := omega) only [seval, go_sem, hlen]
  refine loW_inv (fun n T S' => ∃ (i : Nat), n + i = l.length ∧ T 0 = .sl g 3 (dP l) ∧ T 3 = .lit (.int .i64 (i : Int)) ∧ (∀ x ∈ l.take i, x.1.length ≤ 40) ∧ S' = S) l.length ?_ ?_
  · exact ⟨0, rfl, rfl, rfl, (fun x h => by cases h), rfl⟩
  rintro n T S1 ⟨i, hi, h0, h3, hall, rfl⟩
  simp -implicitDefEqProofs (disch := omega) only [seval, go_sem, h0, h3, hlen]
  refine cdK_d (fun hc => ?_) (fun hc => ?_)
  · have hlt : i < l.length := by omega
    have hx := dP_get hlt
    have htk := take_succ_D l (i := i) default hlt
    have hmem : l.getD i default ∈ l := getD_mem hlt
    obtain ⟨⟨a, b, c⟩, hp⟩ : ∃ x, l.getD i default = x := ⟨_, rfl⟩
    rw [hp] at hx htk hmem
    rw [pD_mk] at hx
    have hal := hb _ hmem
    simp only at hal
    simp -implicitDefEqProofs (disch := omega) only [seval, go_sem, h0, h3, hlen, hx]
    refine cdK_d (fun hd => ?_) (fun hd => ?_)
    · simp -implicitDefEqProofs (disch := omega) only [seval, go_sem, h0, h3, hlen, hx]
      refine ⟨?_, Keep.refl _⟩
      rw [smallP, List.all_eq_false.2 ⟨_, hmem, by simp; omega⟩]; rfl
    · simp -implicitDefEqProofs (disch := omega) only [seval, go_sem, h0, h3, hlen, hx]
      refine ⟨n - 1, by omega, i + 1, by omega, h0, rfl, fun x h => ?_, rfl⟩
      rw [htk, List.mem_append, List.mem_singleton] at h
      rcases h with h | rfl
      · exact hall x h
      · show a.length ≤ 40; omega
  · simp -implicitDefEqProofs (disch := omega) only [seval, go_sem, h0, h3, hlen]
    refine ⟨?_, Keep.refl _⟩
    have e : i = l.length := by omega
    subst e
    rw [List.take_length] at hall
    rw [smallP, List.all_eq_true.2 fun x h => decide_eq_true (hall x h), Bool.true_and]
    congr 3
    apply propext; omega
def cutP (b c : BitVec 8) : Bs := if c.toNat < 60 then (pth6 b).take (c.toNat % 34) else pth6 b
def partB (x : Part) : Bs := x.1 ++ cutP x.2.1 x.2.2
def textP (l : List Part) : Bs := l.flatMap partB
theorem cutP_len (b c : BitVec 8) : (cutP b c).length ≤ 34 := by
  have := pthN_len (b % 6#8)
  unfold cutP pth6
  split
  · rw [List.length_take]; omega
  · omega
theorem textP_len : ∀ {l : List Part}, (∀ x ∈ l, x.1.length ≤ 40) → (textP l).length ≤ 74 * l.length
  | [], _ => by simp [textP]
  | x :: l, h => by
    have h1 := textP_len fun y hy => h y (List.mem_cons_of_mem _ hy)
    have h2 := h x List.mem_cons_self
    have h3 := cutP_len x.2.1 x.2.2
    rw [textP] at h1 ⊢
    rw [List.flatMap_cons, List.length_append, partB, List.length_append, List.length_cons]
    omega
theorem textP_app (a b : List Part) : textP (a ++ b) = textP a ++ textP b := List.flatMap_append
set_option maxRecDepth 8000 in
set_option maxHeartbeats 1000000 in
theorem c_godownlaw08_text {S : TS} {g : Tag} {l : List Part} {K : TV → TS → Prop} (hK : K (.sl (.own S.n) 1 (dB (textP l))) (S.push .lin)) (hb : ∀ x ∈ l, x.1.length ≤ 40) (hl : l.length ≤ 8 := by omega) : TCall env 24 [.sl g 3 (dP l)] S K := by
  refine (TCall.rowE (s := 1) (xs := dB (textP l)) ?_).mono fun t S' ⟨h1, h2⟩ => by rw [h1, h2]; exact hK
  refine TCall.w 47 [.tmp 2] Tryd.func24 rfl rfl rfl rfl (by kernel_rfl) rfl ?_
  have hlen := dP_len l
  simp -implicitDefEqProofs (disch := omega) only [seval, go_sem, hlen]
  refine loW.asRow 3 1 rfl (.inl rfl) ?_
  refine loW_inv (fun n T S' => ∃ (i k : Nat), n + i = l.length ∧ T 0 = .sl g 3 (dP l) ∧ T 3 = .sl (.own k) 1 (dB (textP (l.take i))) ∧ T 4 = .lit (.int .i64 (i : Int)) ∧ S'.objs k = .lin ∧ S.n ≤ k ∧ Keep S S') l.length ?_ ?_
  · exact ⟨0, S.n, rfl, rfl, rfl, rfl, push_self _ _, Nat.le_refl _, Keep.push _ _⟩
  rintro n T S1 ⟨i, k, hi, h0, h3, h4, hk, hkn, hkp⟩
  simp -implicitDefEqProofs (disch := omega) only [seval, go_sem, h0, h3, h4, hlen]
  refine cdK_d (fun hc => ?_) (fun hc => ?_)
  · have hlt : i < l.length := by omega
    have hx := dP_get hlt
    have htk := take_succ_D l (i := i) default hlt
    have hmem : l.getD i default ∈ l := getD_mem hlt
    obtain ⟨⟨a, b, c⟩, hp⟩ : ∃ x, l.getD i default = x := ⟨_, rfl⟩
    rw [hp] at hx htk hmem
    rw [pD_mk] at hx
    have hal := hb _ hmem
    simp only at hal
    have htl : (textP (l.take i)).length ≤ 74 * (l.take i).length := textP_len fun x h => hb x (List.mem_of_mem_take h)
    rw [List.length_take] at htl
    have hp34 := pthN_len (b % 6#8)
    have hc8 := c.isLt
    simp -implicitDefEqProofs (disch := omega) only [seval, go_sem, h0, h3, h4, hlen, hx, hk]
    refine c_godownlaw08_path ?_
    have hpl : (pth6 b).length = 34 := hp34
    simp -implicitDefEqProofs (disch := omega) only [seval, go_sem, h0, h3, h4, hlen, hx, hk, hpl]
    refine cdK_d (fun hd => ?_) (fun hd => ?_)
    · have hd' : c.toNat < 60 := by omega
      have hcl : ((pth6 b).take (c.toNat % 34)).length ≤ 34 := by rw [List.length_take]; omega
      simp -implicitDefEqProofs (disch := omega) only [seval, go_sem, h0, h3, h4, hlen, hx, hk, hpl]
      refine ⟨n - 1, by omega, i + 1, S1.n + 1 + 1, by omega, h0, ?_, rfl, push_self (((S1.set k .gone).push .gone).push .lin) _, by have := hkp.1; omega, (((hkp.set hkn _).push' _).push' _).push' _⟩
      rw [htk, textP_app, show textP [(a, b, c)] = a ++ (pth6 b).take (c.toNat % 34) by rw [textP, List.flatMap_cons, List.flatMap_nil, List.append_nil, partB, cutP, if_pos hd'], ← List.append_assoc, dB_app, dB_app]
      rfl
    · simp -implicitDefEqProofs (disch := omega) only [seval, go_sem, h0, h3, h4, hlen, hx, hk, hpl]
      refine ⟨n - 1, by omega, i + 1, S1.n + 1 + 1, by omega, h0, ?_, rfl, push_self (((S1.set k .gone).push .gone).push .lin) _, by have := hkp.1; omega, (((hkp.set hkn _).push' _).push' _).push' _⟩
      rw [htk, textP_app, show textP [(a, b, c)] = a ++ pth6 b by rw [textP, List.flatMap_cons, List.flatMap_nil, List.append_nil, partB, cutP, if_neg (show ¬ c.toNat < 60 by omega)], ← List.append_assoc, dB_app, dB_app]
      rfl
  · simp -implicitDefEqProofs (disch := omega) only [seval, go_sem, h0, h3, h4, hlen]
    have e : i = l.length := by omega
    subst e
    rw [List.take_length] at *
    exact ⟨.inl ⟨k, rfl, hkn, hk⟩, hkp⟩
end Go.Proofs.YtiijiejncefpmaaDoor
namespace Go.Proofs.YtiijiejncefpmaaDoor
open Go.RowKit TL

theorem spots_no {p s : Bs} (h : isP s = false) : spots p s = [] := by rw [spots, h]; rfl
theorem finds_no {p s : Bs} (h : isP s = false) : (riseL (finds p [s])).length = 0 := by
  rw [show finds p [s] = [] by rw [finds, List.filter_cons, spots_no h]; rfl]; rfl
set_option maxRecDepth 8000 in
set_option maxHeartbeats 1000000 in
theorem c_ScanNone (S : TS) (g : Tag) (p s : Bs) : TCall env 8 [.sl g 1 (dB p), .lit (.string (st s))] S fun r S' => r = .lit (.bool true) := by
  refine TCall.w 40 [.tmp 4] Tryd.func8 rfl rfl rfl rfl (by kernel_rfl) rfl ?_
  simp -implicitDefEqProofs (disch := omega) only [seval, go_sem]
  refine c_godownlaw08_found ?_
  by_cases h1 : p.length ≤ 200
  rotate_left
  · simp -implicitDefEqProofs (disch := omega) only [seval, go_sem]
    refine c_godownlaw08_found ?_
    simp -implicitDefEqProofs (disch := omega) only [seval, go_sem]
    exact rfl
  by_cases h2 : s.length ≤ 100
  rotate_left
  · simp -implicitDefEqProofs (disch := omega) only [seval, go_sem]
    refine c_godownlaw08_found ?_
    simp -implicitDefEqProofs (disch := omega) only [seval, go_sem]
    exact rfl
  simp -implicitDefEqProofs (disch := omega) only [seval, go_sem]
  refine c_godownref01_Join ?_
  simp -implicitDefEqProofs (disch := omega) only [seval, go_sem]
  refine c_godownref07_Is ?_
  cases hP : isP s
  rotate_left
  · simp -implicitDefEqProofs (disch := omega) only [seval, go_sem]
    exact rfl
  have hd : dI (spots (p ++ s) s) = [] := by rw [spots_no hP]; rfl
  have hz := finds_no (p := p ++ s) hP
  have hl : (p ++ s).length ≤ 300 := by rw [List.length_append]; omega
  simp -implicitDefEqProofs (disch := omega) only [seval, go_sem]
  refine c_scan_Spots (p := p ++ s) ?_
  rw [hd]
  simp -implicitDefEqProofs (disch := omega) only [seval, go_sem]
  refine c_scan_Find (p := p ++ s) (l := [s]) ?_ (fun x hx => by rw [List.mem_singleton.1 hx]; omega) (by simp)
  simp -implicitDefEqProofs (disch := omega) only [seval, go_sem, hz]
  trace_state
  exact rfl
theorem spotN_mem {p : Bs} {m : Nat} {s : Bs} {q : Nat} : q ∈ spotN p m s ↔ q < m ∧ win p q = s ∧ okB s = true := by
  simp [spotN]
theorem spotN_inc (p : Bs) (m : Nat) (s : Bs) : (spotN p m s).Pairwise (· < ·) := List.Pairwise.filter _ List.pairwise_lt_range
theorem spotN_at {p : Bs} {m : Nat} {s : Bs} {j : Nat} (h : j < (spotN p m s).length) : (spotN p m s).getD j 0 < m ∧ win p ((spotN p m s).getD j 0) = s ∧ (0 < j → (spotN p m s).getD (j - 1) 0 < (spotN p m s).getD j 0) := by
  have hm : (spotN p m s).getD j 0 ∈ spotN p m s := getD_mem h
  obtain ⟨h1, h2, _⟩ := spotN_mem.1 hm
  refine ⟨h1, h2, fun h0 => ?_⟩
  have := List.pairwise_iff_getElem.1 (spotN_inc p m s) (j - 1) j (by omega) h (by omega)
  rw [List.getD_eq_getElem?_getD, List.getD_eq_getElem?_getD, List.getElem?_eq_getElem h, List.getElem?_eq_getElem (show j - 1 < (spotN p m s).length by omega)]
  exact this
theorem spotD {p : Bs} {m : Nat} {s : Bs} {j : Nat} (h : j < (spotN p m s).length) : (dI (spotL p m s)).getD j default = .lit (.int .i64 ((spotN p m s).getD j 0 : Nat)) := by
  rw [dI_get (by rw [spotL, List.length_map]; exact h), spotL, List.getD_eq_getElem?_getD, List.getElem?_map, List.getD_eq_getElem?_getD, List.getElem?_eq_getElem h]; rfl
theorem two_mem {l : List Nat} {a b : Nat} (ha : a ∈ l) (hb : b ∈ l) (h : a ≠ b) : 2 ≤ l.length := by
  match l, ha, hb with
  | [x], ha, hb => rw [List.mem_singleton] at ha hb; omega
  | _ :: _ :: _, _, _ => simp
theorem win_mid (a s b : Bs) (h : s.length = 32) : win (a ++ s ++ b) a.length = s := by
  rw [win, List.append_assoc, List.drop_left' rfl, List.take_left' h]
theorem spots_pth (p : Bs) (n : BitVec 8) : spots p (pth6 n) = spotL p (p.length - 31) (ltrN (n % 6#8)) := by
  rw [pth6, spots, if_pos (pthN_isP _), splitA_pthN]
theorem pth6_take (n : BitVec 8) : (pth6 n).take 32 = ltrN (n % 6#8) := by
  rw [pth6, pthN_eq, List.take_left' (ltrN_len _)]
set_option maxRecDepth 8000 in
set_option maxHeartbeats 1000000 in
theorem c_ScanTwice (S : TS) (g1 g2 : Tag) (a m : Bs) (n : BitVec 8) : TCall env 10 [.sl g1 1 (dB a), .sl g2 1 (dB m), .lit (w8 n)] S fun r S' => r = .lit (.bool true) := by
  refine TCall.w 103 [.tmp 6] Tryd.func10 rfl rfl rfl rfl (by kernel_rfl) rfl ?_
  simp -implicitDefEqProofs (disch := omega) only [seval, go_sem]
  refine c_godownlaw08_found ?_
  by_cases h1 : a.length ≤ 60
  rotate_left
  · simp -implicitDefEqProofs (disch := omega) only [seval, go_sem]
    refine c_godownlaw08_found ?_
    simp -implicitDefEqProofs (disch := omega) only [seval, go_sem]
    exact rfl
  by_cases h2 : m.length ≤ 60
  rotate_left
  · simp -implicitDefEqProofs (disch := omega) only [seval, go_sem]
    refine c_godownlaw08_found ?_
    simp -implicitDefEqProofs (disch := omega) only [seval, go_sem]
    exact rfl
  have h34 : (pth6 n).length = 34 := pthN_len _
  have htk := pth6_take n
  have hsp := fun p => spots_pth p n
  simp -implicitDefEqProofs (disch := omega) only [seval, go_sem]
  refine c_godownlaw08_path ?_
  have h32 := ltrN_len (n % 6#8)
  have hok := ltrN_ok (n % 6#8)
  generalize pth6 n = x at *
  generalize ltrN (n % 6#8) = s at *
  simp -implicitDefEqProofs (disch := omega) only [seval, go_sem, h34, htk]
  refine c_godownref01_Join ?_
  simp -implicitDefEqProofs (disch := omega) only [seval, go_sem]
  have l1 : (a ++ s).length = a.length + 32 := by rw [List.length_append, h32]
  refine c_godownref01_Join ?_
  have l2 : (a ++ s ++ m).length = a.length + 32 + m.length := by rw [List.length_append, l1]
  simp -implicitDefEqProofs (disch := omega) only [seval, go_sem]
  refine c_godownref01_Join ?_
  have l3 : (a ++ s ++ m ++ s).length = a.length + 32 + m.length + 32 := by rw [List.length_append, l2, h32]
  have m1 : win (a ++ s ++ m ++ s) a.length = s := by rw [show a ++ s ++ m ++ s = a ++ s ++ (m ++ s) by simp]; exact win_mid _ _ _ h32
  have m2 : win (a ++ s ++ m ++ s) (a.length + 32 + m.length) = s := by
    have := win_mid (a ++ s ++ m) s [] h32
    rwa [List.append_nil, l2] at this
  generalize a ++ s ++ m ++ s = p at *
  simp -implicitDefEqProofs (disch := omega) only [seval, go_sem]
  refine c_scan_Spots (p := p) ?_
  rw [hsp]
  have hsl : (spotL p (p.length - 31) s).length = (spotN p (p.length - 31) s).length := List.length_map _
  have hat := fun j h => spotN_at (p := p) (m := p.length - 31) (s := s) (j := j) h
  have hdt := fun j h => spotD (p := p) (m := p.length - 31) (s := s) (j := j) h
  have hge : 2 ≤ (spotN p (p.length - 31) s).length := two_mem (spotN_mem.2 ⟨by omega, m1, hok⟩) (spotN_mem.2 ⟨by omega, m2, hok⟩) (by omega)
  have hle := spotL_len p (p.length - 31) s
  have hsp2 := hsp p
  generalize spotL p (p.length - 31) s = L at *
  generalize spotN p (p.length - 31) s = N at *
  simp -implicitDefEqProofs (disch := omega) only [seval, go_sem, hsl]
  refine loW_inv (fun n T S' => ∃ (i : Nat) (g8 g9 g10 : Tag), n + i = N.length ∧ T 7 = .lit (.string (st x)) ∧ T 8 = .sl g8 1 (dB s) ∧ T 9 = .sl g9 1 (dB p) ∧ T 10 = .sl g10 1 (dI L) ∧ T 11 = .lit (.int .i64 (i : Int))) N.length ?_ ?_
  · exact ⟨0, _, _, _, rfl, rfl, rfl, rfl, rfl, rfl⟩
  rintro n T S1 ⟨i, g8, g9, g10, hi, h7, h8, h9, h10, h11⟩
  simp -implicitDefEqProofs (disch := omega) only [seval, go_sem, h7, h8, h9, h10, h11, hsl]
  refine cdK_d (fun hb => ?_) (fun hb => ?_)
  · have hlt : i < N.length := by omega
    obtain ⟨q1, q2, q3⟩ := hat i hlt
    have hd := hdt i hlt
    have hd1 := fun h => hdt (i - 1) h
    have hw : (p.take (N.getD i 0 + 32)).drop (N.getD i 0) = s := by
      refine Eq.trans ?_ q2
      show _ = (p.drop _).take 32
      rw [List.take_drop]
    generalize N.getD i 0 = q at *
    simp -implicitDefEqProofs (disch := omega) only [seval, go_sem, h7, h8, h9, h10, h11, hsl, hd]
    refine drW_at [(0,0),(1,0),(2,0),(3,0),(4,0),(5,0),(6,0),(7,0),(8,0),(9,0),(10,0),(11,0),(12,0),(13,0),(14,0),(15,0),(16,0),(17,0),(18,0),(19,0),(20,0),(21,0),(22,0),(23,0),(24,0),(25,0),(26,0),(27,0),(28,3),(29,0),(30,0),(31,0),(32,0),(33,0),(34,0),(35,0),(36,0),(37,0),(38,0),(39,0),(40,0),(41,0),(42,0),(43,0),(44,0),(45,0),(46,0)] followsN (by kernel_rfl) ?_
    by_cases hi0 : i = 0
    · simp -implicitDefEqProofs (disch := omega) only [seval, go_sem, h7, h8, h9, h10, h11, hsl, hd, hw]
      refine ⟨_, fun S' _ => c_godownref01_Bytes ⟨rfl, rfl⟩, ?_⟩
      simp -implicitDefEqProofs (disch := omega) only [seval, go_sem, h7, h8, h9, h10, h11, hsl, hd, hw]
      exact ⟨n - 1, by omega, i + 1, g8, g9, g10, by omega, h7, h8, h9, h10, rfl⟩
    · have hd1 := hd1 (by omega)
      have q3 := q3 (by omega)
      generalize N.getD (i - 1) 0 = r at *
      simp -implicitDefEqProofs (disch := omega) only [seval, go_sem, h7, h8, h9, h10, h11, hsl, hd, hd1, hw]
      refine ⟨_, fun S' _ => c_godownref01_Bytes ⟨rfl, rfl⟩, ?_⟩
      simp -implicitDefEqProofs (disch := omega) only [seval, go_sem, h7, h8, h9, h10, h11, hsl, hd, hd1, hw]
      exact ⟨n - 1, by omega, i + 1, g8, g9, g10, by omega, h7, h8, h9, h10, rfl⟩
  · simp -implicitDefEqProofs (disch := omega) only [seval, go_sem, h7, h8, h9, h10, h11, hsl]
    refine c_godownref08_Spots ?_
    rw [hsp2]
    simp -implicitDefEqProofs (disch := omega) only [seval, go_sem, h7, h8, h9, h10, h11, hsl]
    refine c_godownref01_Ints ?_ (by omega)
    simp -implicitDefEqProofs (disch := omega) only [seval, go_sem, h7, h8, h9, h10, h11, hsl]
    trace_state
    exact rfl
end Go.Proofs.YtiijiejncefpmaaDoor
