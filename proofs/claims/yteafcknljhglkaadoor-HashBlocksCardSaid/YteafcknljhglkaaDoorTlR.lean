/-
  Regions whose order is drawn: the theorem, last part.
-/
import Derived.Test.YteafcknljhglkaaDoorTlQ
set_option linter.unusedVariables false
set_option linter.unusedSimpArgs false
namespace Go.Proofs.YteafcknljhglkaaDoor.TL
open Go.RowKit

section
variable {E : Env} {N : Nat} {ops : Array Oper} {l : List Ent2} {T0 : Nat → TV} {w0 : World}

theorem pr_snoc (d : List (Ent2 × TV)) (p : Ent2) (v : TV) : pr (d ++ [(p, v)]) = pr d ++ [(p.1, v)] := by simp [pr]

theorem Dr.fresh {listed : Array Bool} {d : List (Ent2 × TV)} {rest : List Ent2} {S : TS} {c : Cx} {w : World} {a : Act} {i k : Nat} (hD : Dr E N ops l T0 w0 listed d ((i, k) :: rest) S c w a) (hnd : (l.map (·.1)).Nodup) (hP : chkP ops (l.map (·.1)) = true)
    {o : Oper} (ho : ops[i]? = some o) : ∀ x ∈ pr d, ∀ t, o.dst = some t → (ops[x.1]?).bind (·.dst) ≠ some t := by
  intro x hx t ht hxt
  obtain ⟨ox, hox, hdx⟩ := Option.bind_eq_some_iff.1 hxt
  unfold pr at hx
  obtain ⟨p, hp, rfl⟩ := List.mem_map.1 hx
  simp only at hox
  have hxl : p.1.1 ∈ l.map (·.1) := by
    rw [hD.split, List.map_append, List.map_map]
    exact List.mem_append_left _ (List.mem_map.2 ⟨p, hp, rfl⟩)
  have hil : i ∈ l.map (·.1) := by rw [hD.split]; simp
  have hne : p.1.1 ≠ i := by
    intro hh
    have hnd' := hnd
    rw [hD.split] at hnd'
    simp only [List.map_append, List.map_cons, List.map_map] at hnd'
    exact (List.nodup_append.1 hnd').2.2 p.1.1 (List.mem_map.2 ⟨p, hp, rfl⟩) i (by simp) hh
  exact (chkP_at hP hil hxl (fun h => hne h.symm) ho hox ht).2 hdx

/-- A quiet operation is taken in its turn, though it comes up later. -/
theorem Dr.quiet {listed : Array Bool} {d : List (Ent2 × TV)} {rest : List Ent2} {S : TS} {c : Cx} {w : World} {a : Act} {i : Nat} {v : TV} (hD : Dr E N ops l T0 w0 listed d ((i, 0) :: rest) S c w a)
    (hp : Pend E N ops i (ov ops T0 (pr d)) S v) : Dr E N ops l T0 w0 listed (d ++ [((i, 0), v)]) rest S c w a := by
  have hul := hD.rest (i, 0) (by simp)
  have hup : up listed (d ++ [((i, 0), v)]) = up listed d := by
    unfold up
    rw [List.filter_append]
    have : [((i, 0), v)].filter (fun p : Ent2 × TV => listed.getD p.1.1 false) = [] := by
      simp only [List.filter_cons, List.filter_nil]
      rw [if_neg (by rw [hul]; simp)]
    rw [this, List.append_nil]
  refine ⟨by rw [hD.split]; simp, hD.size, fun p hp => hD.rest p (List.mem_cons_of_mem _ hp), hD.dc, hD.ok, by rw [hup]; exact hD.tm, hD.asz, ?_⟩
  intro pre p u suf h hl
  rcases List.eq_nil_or_concat suf with rfl | ⟨suf', x, rfl⟩
  · have := List.append_inj' h rfl
    obtain ⟨h1, h2⟩ := this
    simp only [List.cons.injEq, Prod.mk.injEq, and_true] at h2
    obtain ⟨rfl, rfl⟩ := h2
    subst h1
    exact ⟨rfl, hp⟩
  · have h' : d ++ [((i, 0), v)] = (pre ++ (p, u) :: suf') ++ [x] := by rw [h]; simp
    have := List.append_inj' h' rfl
    exact hD.pend pre p u suf' this.1 hl

theorem Dr.normal {K : (Nat → TV) → TS → Prop} (hnd : (l.map (·.1)).Nodup) (hP : chkP ops (l.map (·.1)) = true) {listed : Array Bool} {S : TS} {c : Cx} {w : World} {a : Act} : ∀ (rest : List Ent2) (d : List (Ent2 × TV)), Dr E N ops l T0 w0 listed d rest S c w a → evD E N ops rest K (ov ops T0 (pr d)) S →
    ∃ d' rest', Dr E N ops l T0 w0 listed d' rest' S c w a ∧ evD E N ops rest' K (ov ops T0 (pr d')) S ∧ (rest' = [] ∨ ∃ i k r, rest' = (i, k) :: r ∧ k ≠ 0)
  | [], d, hD, h => ⟨d, [], hD, h, .inl rfl⟩
  | (i, k) :: rest, d, hD, h => by
    by_cases hk : k = 0
    · subst hk
      have h0 := h
      unfold evD at h
      split at h
      · exact h.elim
      · rename_i o ho
        have hfr := hD.fresh hnd hP ho
        split at h
        · rename_i hg
          rw [if_pos rfl] at h
          obtain ⟨v, h1, h2⟩ := quietT_ok h
          have hD' := hD.quiet (v := v) ⟨o, ho, by rw [hg]; exact h1⟩
          rw [← ov_snoc ho hfr] at h2
          rw [← pr_snoc d (i, 0) v] at h2
          exact Dr.normal hnd hP rest _ hD' h2
        · rename_i j want hg
          split at h
          · rename_i dd hdd
            split at h
            · rename_i b hb
              obtain ⟨hN, h1, h2⟩ := h
              by_cases hbw : bOf b = some want
              · have := h1 hbw
                rw [if_pos rfl] at this
                obtain ⟨v, h3, h4⟩ := quietT_ok this
                have hD' := hD.quiet (v := v) ⟨o, ho, by rw [hg]; exact ⟨dd, b, hdd, hN, hb, fun _ => h3, fun hh => absurd hbw hh⟩⟩
                rw [← ov_snoc ho hfr] at h4
                rw [← pr_snoc d (i, 0) v] at h4
                exact Dr.normal hnd hP rest _ hD' h4
              · have h4 := h2 hbw
                have hD' := hD.quiet (v := .lit undef) ⟨o, ho, by rw [hg]; exact ⟨dd, b, hdd, hN, hb, fun hh => absurd hh hbw, fun _ => rfl⟩⟩
                rw [← ov_snoc ho hfr] at h4
                rw [← pr_snoc d (i, 0) (.lit undef)] at h4
                exact Dr.normal hnd hP rest _ hD' h4
            · exact h.elim
          · exact h.elim
    · exact ⟨d, (i, k) :: rest, hD, h, .inr ⟨i, k, rest, rfl, hk⟩⟩

theorem getD_set {listed : Array Bool} {i j : Nat} (hi : i < listed.size) : (listed.setIfInBounds i true).getD j false = if i = j then true else listed.getD j false := by
  rw [Array.getD_eq_getD_getElem?, Array.getD_eq_getD_getElem?, Array.getElem?_setIfInBounds]
  by_cases h : i = j
  · rw [if_pos h, if_pos h, if_pos (by omega)]; rfl
  · rw [if_neg h, if_neg h]

theorem DC.set {listed : Array Bool} (h : DC ops listed) {i : Nat} {o : Oper} (hi : i < listed.size) (ho : ops[i]? = some o) (hu : Up o listed) : DC ops (listed.setIfInBounds i true) := by
  have hmono : ∀ o', Up o' listed → Up o' (listed.setIfInBounds i true) := by
    intro o' h' e he hb
    rw [getD_set hi]
    split
    · rfl
    · exact h' e he hb
  intro j oj hoj hj
  rw [getD_set hi] at hj
  by_cases hij : i = j
  · subst hij
    rw [ho] at hoj; injection hoj with hoj; subst hoj
    exact hmono _ hu
  · rw [if_neg hij] at hj
    exact hmono _ (h j oj hoj hj)

theorem ready_iff {listed : Array Bool} (hs : listed.size = ops.size) {i : Nat} : i ∈ Region.ready .any ops listed ↔ listed.getD i false = false ∧ ∃ o, ops[i]? = some o ∧ Up o listed := by
  unfold Region.ready
  rw [List.mem_filter, List.mem_range]
  constructor
  · rintro ⟨h1, h2⟩
    simp only [Bool.and_eq_true, Bool.not_eq_true'] at h2
    have hg : ops[i]? = some ops[i] := Array.getElem?_eq_getElem h1
    rw [hg] at h2
    simp only [Option.map_some, Option.getD_some] at h2
    refine ⟨?_, _, hg, fun e he hb => ?_⟩
    · have := h2.1
      rw [Array.getD_eq_getD_getElem?, Array.getElem?_eq_getElem (by omega)] at this ⊢
      exact this
    · have := Array.all_eq_true_iff_forall_mem.1 h2.2 e he
      simpa [hb] using this
  · rintro ⟨h1, o, ho, hu⟩
    have hi : i < ops.size := (Array.getElem?_eq_some_iff.1 ho).1
    refine ⟨hi, ?_⟩
    simp only [Bool.and_eq_true, Bool.not_eq_true', ho, Option.map_some, Option.getD_some]
    refine ⟨?_, Array.all_eq_true_iff_forall_mem.2 fun e he => ?_⟩
    · rw [Array.getD_eq_getD_getElem?, Array.getElem?_eq_getElem (by omega)] at h1 ⊢
      exact h1
    · cases hb : Region.binds .any e with
      | false => rfl
      | true => simp [hu e he hb]

theorem up_set {listed : Array Bool} {d : List (Ent2 × TV)} {i : Nat} (hi : i < listed.size) (hd : ∀ p ∈ d, p.1.1 ≠ i) : up (listed.setIfInBounds i true) d = up listed d := by
  unfold up
  apply List.filter_congr
  intro p hp
  rw [getD_set hi, if_neg (fun h => hd p hp h.symm)]

theorem dst_tmps {c : Cx} {w : World} {X X' : Nat → TV} {a : Act} {dst : Option Nat} {v : TV} {u : Value} (ht : Tmps c w X a) (hr : RdT c w v u) (hX : ∀ t, X' t = if dst = some t then v else X t) : Tmps c w X' (a.put dst u) := by
  have := Tmps.put ht (dst := dst) hr
  intro t x hx
  have h1 := this t x hx
  rw [hX]
  cases dst with
  | none => simpa [putT] using h1
  | some d =>
    simp only [putT, upd] at h1
    by_cases htd : t = d
    · subst htd; simpa using h1
    · rw [if_neg htd] at h1
      rw [if_neg (by simp; exact fun h => htd h.symm)]
      exact h1
end
end Go.Proofs.YteafcknljhglkaaDoor.TL
