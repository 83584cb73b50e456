/-
  Regions whose order is drawn: one order serves.
-/
import Derived.Test.YteafcknljhglkaaDoorTlR
set_option linter.unusedVariables false
set_option linter.unusedSimpArgs false
namespace Go.Proofs.YteafcknljhglkaaDoor.TL
open Go.RowKit

theorem exists_first {listed : Array Bool} : ∀ (l : List Ent2), (∃ p ∈ l, listed.getD p.1 false = false) → ∃ pre p suf, l = pre ++ p :: suf ∧ listed.getD p.1 false = false ∧ ∀ q ∈ pre, listed.getD q.1 false = true
  | [], h => by obtain ⟨p, hp, _⟩ := h; cases hp
  | x :: l, h => by
    cases hx : listed.getD x.1 false with
    | false => exact ⟨[], x, l, rfl, hx, fun q hq => by cases hq⟩
    | true =>
      obtain ⟨p, hp, hpl⟩ := h
      rcases List.mem_cons.1 hp with h1 | h1
      · subst h1; rw [hx] at hpl; cases hpl
      · obtain ⟨pre, p', suf, g1, g2, g3⟩ := exists_first l ⟨p, h1, hpl⟩
        refine ⟨x :: pre, p', suf, by rw [g1]; rfl, g2, fun q hq => ?_⟩
        rcases List.mem_cons.1 hq with h | h
        · rw [h]; exact hx
        · exact g3 q h

theorem count_set {listed : Array Bool} {i : Nat} (hi : i < listed.size) (hu : listed.getD i false = false) : ∀ (L : List Nat), L.Nodup → i ∈ L →
    (L.filter fun j => !(listed.setIfInBounds i true).getD j false).length + 1 = (L.filter fun j => !listed.getD j false).length
  | [], _, h => by cases h
  | x :: L, hn, h => by
    rw [List.nodup_cons] at hn
    by_cases hx : i = x
    · subst hx
      have h1 : (L.filter fun j => !(listed.setIfInBounds i true).getD j false) = L.filter fun j => !listed.getD j false := by
        apply List.filter_congr
        intro j hj
        have hij : ¬ i = j := fun hh => hn.1 (by rw [hh]; exact hj)
        rw [getD_set hi, if_neg hij]
      rw [List.filter_cons, List.filter_cons, getD_set hi, if_pos rfl, hu, h1]
      simp
    · have hm : i ∈ L := by rcases List.mem_cons.1 h with h | h; exact absurd h hx; exact h
      have ih := count_set hi hu L hn.2 hm
      rw [List.filter_cons, List.filter_cons, getD_set hi, if_neg hx]
      split
      · simp only [List.length_cons]; omega
      · exact ih

section
variable {E : Env} {N : Nat} {ops : Array Oper} {l : List Ent2} {T0 : Nat → TV} {w0 : World}

theorem ov_mem {d : List (Nat × TV)} {x : Nat × TV} (hx : x ∈ d) {t : Nat} (ht : (ops[x.1]?).bind (·.dst) = some t) (hu : ∀ y ∈ d, (ops[y.1]?).bind (·.dst) = some t → y = x) : ov ops T0 d t = x.2 := by
  unfold ov
  cases hd : d.find? (fun p => ((ops[p.1]?).bind (·.dst)) == some t) with
  | none =>
    have := List.find?_eq_none.1 hd x hx
    simp [ht] at this
  | some q =>
    have hq := List.mem_of_find?_eq_some hd
    have hqt : (ops[q.1]?).bind (·.dst) = some t := by have := List.find?_some hd; simpa using this
    rw [hu q hq hqt]

theorem wanted_of {c : Cx} {w : World} {X : Nat → TV} {a : Act} {o : Oper} {j dd : Nat} {want : Bool} {b : Value} (ht : Tmps c w X a) (hs : a.tmps.size = N) (hg : o.guard = some (j, want)) (hdd : (ops[j]?).bind (·.dst) = some dd) (hN : dd < N) (hb : X dd = .lit b) :
    Region.wanted o (yielded ops a.tmps) = (bOf b == some want) := by
  have hv : a.tmps[dd]? = some (a.tmps[dd]'(by omega)) := Array.getElem?_eq_getElem (by omega)
  have := ht dd _ hv
  rw [hb] at this
  have hy : yielded ops a.tmps j = bOf b := by
    unfold yielded
    rw [hdd]
    simp only [Option.bind_some, hv, this.lit_inv]
    cases b <;> rfl
  unfold Region.wanted
  rw [hg]
  simp only [hy]

theorem looks_guard {o : Oper} {j dd : Nat} {want : Bool} (hg : o.guard = some (j, want)) (hdd : (ops[j]?).bind (·.dst) = some dd) : dd ∈ o.looksAt ops := by
  unfold Oper.looksAt
  refine List.mem_append_right _ ?_
  rw [hg]
  simp [hdd]

/-- A waiting operation has come up. -/
theorem Dr.took {listed : Array Bool} {d : List (Ent2 × TV)} {rest : List Ent2} {S : TS} {c : Cx} {w : World} {a : Act} {i k : Nat} {v : TV} {u : Value} {o : Oper} (hD : Dr E N ops l T0 w0 listed d rest S c w a) (hnd : (l.map (·.1)).Nodup) (hP : chkP ops (l.map (·.1)) = true)
    (hm : ((i, k), v) ∈ d) (ho : ops[i]? = some o) (hup : Up o listed) (hr : RdT c w v u) : Dr E N ops l T0 w0 (listed.setIfInBounds i true) d rest S c w (a.put o.dst u) := by
  have hi : i < listed.size := by rw [hD.size]; exact (Array.getElem?_eq_some_iff.1 ho).1
  have hne : ∀ p ∈ rest, i ≠ p.1 := by
    intro p hp hh
    have hnd' := hnd
    rw [hD.split, List.map_append, List.map_map] at hnd'
    exact (List.nodup_append.1 hnd').2.2 i (List.mem_map.2 ⟨_, hm, rfl⟩) p.1 (List.mem_map.2 ⟨p, hp, rfl⟩) hh
  have hsub : ∀ x ∈ pr (up (listed.setIfInBounds i true) d), x ∈ pr d := by
    intro x hx
    unfold pr up at *
    obtain ⟨p, hp, rfl⟩ := List.mem_map.1 hx
    exact List.mem_map.2 ⟨p, (List.mem_filter.1 hp).1, rfl⟩
  have hmem : (i, v) ∈ pr (up (listed.setIfInBounds i true) d) := by
    unfold pr up
    exact List.mem_map.2 ⟨((i, k), v), List.mem_filter.2 ⟨hm, by rw [getD_set hi, if_pos rfl]⟩, rfl⟩
  have hmd : (i, v) ∈ pr d := hsub _ hmem
  refine ⟨hD.split, by simp [hD.size], fun p hp => by rw [getD_set hi, if_neg (hne p hp)]; exact hD.rest p hp, hD.dc.set hi ho hup, hD.ok, ?_, by rw [put_size]; exact hD.asz, ?_⟩
  · refine dst_tmps hD.tm hr fun t => ?_
    split
    · rename_i ht
      have hit : (ops[(i, v).1]?).bind (·.dst) = some t := by simp [ho, ht]
      exact ov_mem hmem hit fun y hy hyt => pr_dst_uniq hD.split hnd hP (hsub y hy) hmd hyt hit
    · rename_i ht
      refine ov_congr ?_ ?_ ?_
      · intro x hx hxt
        unfold pr up at hx ⊢
        obtain ⟨p, hp, rfl⟩ := List.mem_map.1 hx
        obtain ⟨h1, h2⟩ := List.mem_filter.1 hp
        have hpi : i ≠ p.1.1 := by
          intro hh
          simp only at hxt
          rw [← hh, ho] at hxt
          exact ht hxt
        rw [getD_set hi, if_neg hpi] at h2
        exact List.mem_map.2 ⟨p, List.mem_filter.2 ⟨h1, h2⟩, rfl⟩
      · intro x hx hxt
        unfold pr up at hx ⊢
        obtain ⟨p, hp, rfl⟩ := List.mem_map.1 hx
        obtain ⟨h1, h2⟩ := List.mem_filter.1 hp
        refine List.mem_map.2 ⟨p, List.mem_filter.2 ⟨h1, ?_⟩, rfl⟩
        rw [getD_set hi]
        split
        · rfl
        · exact h2
      · intro x hx y hy h1 h2
        refine pr_dst_uniq hD.split hnd hP ?_ ?_ h1 h2
        · unfold pr up at *
          obtain ⟨p, hp, rfl⟩ := List.mem_map.1 hx
          exact List.mem_map.2 ⟨p, (List.mem_filter.1 hp).1, rfl⟩
        · unfold pr up at *
          obtain ⟨p, hp, rfl⟩ := List.mem_map.1 hy
          exact List.mem_map.2 ⟨p, (List.mem_filter.1 hp).1, rfl⟩
  · intro pre p v' suf h hl
    rw [getD_set hi] at hl
    split at hl
    · cases hl
    · exact hD.pend pre p v' suf h hl

/-- The next operation that is not quiet has come up. -/
theorem Dr.done {listed : Array Bool} {d : List (Ent2 × TV)} {rest : List Ent2} {S S' : TS} {c c' : Cx} {w w' : World} {a : Act} {i k : Nat} {v : TV} {u : Value} {o : Oper} (hD : Dr E N ops l T0 w0 listed d ((i, k) :: rest) S c w a) (hnd : (l.map (·.1)).Nodup) (hL : chkL ops [] l = true) (hP : chkP ops (l.map (·.1)) = true)
    (ho : ops[i]? = some o) (hup : Up o listed) (hok : Ok E w0 c' S' w') (m : Mono c w c' w') (hr : RdT c' w' v u) (hkeep : Keep S S' ∨ k = 2) :
    Dr E N ops l T0 w0 (listed.setIfInBounds i true) (d ++ [((i, k), v)]) rest S' c' w' (a.put o.dst u) := by
  have hi : i < listed.size := by rw [hD.size]; exact (Array.getElem?_eq_some_iff.1 ho).1
  have hnd' := hnd
  rw [hD.split, List.map_append, List.map_map, List.map_cons] at hnd'
  have hdi : ∀ p ∈ d, p.1.1 ≠ i := fun p hp hh => (List.nodup_append.1 hnd').2.2 p.1.1 (List.mem_map.2 ⟨p, hp, rfl⟩) i (by simp) hh
  have hri : ∀ p ∈ rest, i ≠ p.1 := fun p hp hh => (List.nodup_cons.1 (List.nodup_append.1 hnd').2.1).1 (List.mem_map.2 ⟨p, hp, hh.symm⟩)
  have hup' : up (listed.setIfInBounds i true) (d ++ [((i, k), v)]) = up listed d ++ [((i, k), v)] := by
    have h1 := up_set hi hdi
    unfold up at *
    rw [List.filter_append, h1]
    congr 1
    rw [List.filter_cons, getD_set hi, if_pos rfl]
    rfl
  refine ⟨by rw [hD.split]; simp, by simp [hD.size], fun p hp => by rw [getD_set hi, if_neg (hri p hp)]; exact hD.rest p (List.mem_cons_of_mem _ hp), hD.dc.set hi ho hup, hok, ?_, by rw [put_size]; exact hD.asz, ?_⟩
  · rw [hup', pr_snoc]
    rw [ov_snoc ho (fun x hx => hD.fresh hnd hP ho x (by
      unfold pr up at *
      obtain ⟨p, hp, rfl⟩ := List.mem_map.1 hx
      exact List.mem_map.2 ⟨p, (List.mem_filter.1 hp).1, rfl⟩))]
    exact (hD.tm.step m).put hr
  · intro pre p v' suf h hl
    rcases List.eq_nil_or_concat suf with rfl | ⟨suf', x, rfl⟩
    · have := List.append_inj' h rfl
      obtain ⟨h1, h2⟩ := this
      simp only [List.cons.injEq, Prod.mk.injEq, and_true] at h2
      obtain ⟨rfl, rfl⟩ := h2
      rw [getD_set hi, if_pos rfl] at hl
      cases hl
    · have h' : d ++ [((i, k), v)] = (pre ++ (p, v') :: suf') ++ [x] := by rw [h]; simp
      have h1 := (List.append_inj' h' rfl).1
      have hpd : (p, v') ∈ d := by rw [h1]; simp
      rw [getD_set hi, if_neg (fun hh => hdi _ hpd hh.symm)] at hl
      obtain ⟨g1, g2⟩ := hD.pend pre p v' suf' h1 hl
      refine ⟨g1, ?_⟩
      rcases hkeep with hk | hk
      · exact g2.keep hD.ok.rel.wf hk
      · exfalso
        obtain ⟨o', ho', _, _, _, h2⟩ := chkL_at (ops := ops) (d.map (·.1)) [] (i := i) (k := k) (suf := rest) (by rw [← hD.split]; exact hL)
        have := before_forced ops listed hD.dc i p.1 o ho hup (h2 hk p (List.mem_map.2 ⟨_, hpd, rfl⟩))
        rw [hl] at this; cases this

set_option maxHeartbeats 1000000 in
theorem evD_main {K : (Nat → TV) → TS → Prop} (hnd : (l.map (·.1)).Nodup) (hL : chkL ops [] l = true) (hP : chkP ops (l.map (·.1)) = true) (hcov : ∀ i, i < ops.size → i ∈ l.map (·.1)) (hlt : ∀ p ∈ l, p.1 < ops.size ∧ p.2 ≤ 2) (hinb : ∀ o ∈ ops.toList, opInb N o = true) :
    ∀ (fuel : Nat) (listed : Array Bool) (d : List (Ent2 × TV)) (rest : List Ent2) (S : TS) (c : Cx) (w : World) (a : Act), Dr E N ops l T0 w0 listed d rest S c w a → (rest = [] ∨ ∃ i k r, rest = (i, k) :: r ∧ k ≠ 0) → evD E N ops rest K (ov ops T0 (pr d)) S →
      ((l.map (·.1)).filter fun j => !listed.getD j false).length = fuel → ∀ Q' : Exit → Act → World → Prop,
      (∀ T S' c' w' a', Ok E w0 c' S' w' → Mono c w c' w' → Tmps c' w' T a' → a'.tmps.size = N → a'.defers = a.defers → K T S' → Q' .normal a' w') → wpAny E.P .any ops Q' fuel listed a w := by
  intro fuel
  induction fuel with
  | zero =>
    intro listed d rest S c w a hD hnorm hev hcnt Q' hQ
    have hall : ∀ i, i ∈ l.map (·.1) → listed.getD i false = true := by
      intro i hi
      cases h : listed.getD i false with
      | true => rfl
      | false =>
        have : i ∈ (l.map (·.1)).filter fun j => !listed.getD j false := List.mem_filter.2 ⟨hi, by rw [h]; rfl⟩
        rw [List.eq_nil_of_length_eq_zero hcnt] at this; cases this
    have hrest : rest = [] := by
      cases rest with
      | nil => rfl
      | cons p r =>
        have h1 := hD.rest p (by simp)
        have h2 := hall p.1 (by rw [hD.split]; simp)
        rw [h1] at h2; cases h2
    subst hrest
    refine ⟨?_, ?_⟩
    · apply List.eq_nil_iff_forall_not_mem.2
      intro i hi
      obtain ⟨h1, o, ho, _⟩ := (ready_iff hD.size).1 hi
      have := hall i (hcov i (Array.getElem?_eq_some_iff.1 ho).1)
      rw [h1] at this; cases this
    · have hup : up listed d = d := by
        unfold up
        apply List.filter_eq_self.2
        intro p hp
        exact hall p.1.1 (by rw [hD.split, List.map_append, List.map_map]; exact List.mem_append_left _ (List.mem_map.2 ⟨p, hp, rfl⟩))
      have ht := hD.tm
      rw [hup] at ht
      exact hQ _ S c w a hD.ok (Mono.refl c w) ht hD.asz rfl hev
  | succ fuel ih =>
    intro listed d rest S c w a hD hnorm hev hcnt Q' hQ
    refine ⟨?_, ?_⟩
    · intro hnil
      exfalso
      have hex : ∃ p ∈ l, listed.getD p.1 false = false := by
        have hne : (l.map (·.1)).filter (fun j => !listed.getD j false) ≠ [] := by intro hh; rw [hh] at hcnt; simp at hcnt
        obtain ⟨j, hj⟩ := List.exists_mem_of_ne_nil _ hne
        obtain ⟨h1, h2⟩ := List.mem_filter.1 hj
        obtain ⟨p, hp, rfl⟩ := List.mem_map.1 h1
        exact ⟨p, hp, by simpa using h2⟩
      obtain ⟨pre, ⟨i, k⟩, suf, g1, g2, g3⟩ := exists_first l hex
      obtain ⟨o, ho, hd, _⟩ := chkL_at pre [] (by rw [← g1]; exact hL)
      have : i ∈ Region.ready .any ops listed := (ready_iff hD.size).2 ⟨g2, o, ho, fun e he hb => by
        rcases hd e he hb with h | h
        · cases h
        · obtain ⟨q, hq, hqe⟩ := List.mem_map.1 h
          rw [← hqe]; exact g3 q hq⟩
      rw [hnil] at this; cases this
    · intro i hi
      obtain ⟨hul, o, ho, hup⟩ := (ready_iff hD.size).1 hi
      have hin := hcov i (Array.getElem?_eq_some_iff.1 ho).1
      have hoi : opInb N o = true := hinb o (by rw [Array.mem_toList_iff]; exact Array.mem_of_getElem? ho)
      have hilt : i < listed.size := by rw [hD.size]; exact (Array.getElem?_eq_some_iff.1 ho).1
      have hcnt' : ((l.map (·.1)).filter fun j => !(listed.setIfInBounds i true).getD j false).length = fuel := by
        have := count_set hilt hul (l.map (·.1)) hnd hin
        omega
      rw [hD.split, List.map_append, List.mem_append, List.map_map] at hin
      unfold wpOp
      rw [ho]
      rcases hin with hin | hin
      · -- it has been taken in its turn
        obtain ⟨⟨⟨i', k⟩, v⟩, hm, hii⟩ := List.mem_map.1 hin
        simp only [Function.comp] at hii
        subst hii
        obtain ⟨pre, suf, hsp⟩ := List.append_of_mem hm
        obtain ⟨hk0, o', ho', hpend⟩ := hD.pend pre (i', k) v suf hsp hul
        simp only at hk0 ho'
        rw [ho] at ho'; injection ho' with ho'; subst ho'
        have hag := fun t ht => agree hD hnd hL hP hsp hul ho hup (t := t) ht
        have hopn : Opn E c w (ov ops T0 (pr pre)) a o.op := opn_look hD.ok hD.tm hD.asz hoi hag
        have fin : ∀ u, RdT c w v u → wpAny E.P .any ops Q' fuel (listed.setIfInBounds i' true) (a.put o.dst u) w := fun u hr =>
          ih _ d rest S c w _ (hD.took hnd hP hm ho hup hr) hnorm hev hcnt' Q' (fun T S' c' w' a' h1 h2 h3 h4 h5 h6 => hQ T S' c' w' a' h1 h2 h3 h4 (by rw [h5, put_defers']) h6)
        have quietRun : QStab E o (ov ops T0 (pr pre)) S v → o.wp E.P a w (wpAny E.P .any ops Q' fuel (listed.setIfInBounds i' true)) Q' := by
          intro hq
          obtain ⟨u, hu, hr⟩ := hq S hD.ok.rel.wf (Keep.refl S) w0 c w a hD.ok hopn
          unfold Oper.wp
          rw [hu]
          exact fin u hr
        split at hpend
        · rename_i hg
          simp only
          rw [if_pos (by simp [Region.wanted, hg])]
          exact .inl (quietRun hpend)
        · rename_i j want hg
          obtain ⟨dd, b, g1, g2, g3, g4, g5⟩ := hpend
          have hX : ov ops T0 (pr (up listed d)) dd = .lit b := by rw [hag dd (looks_guard hg g1)]; exact g3
          have hw := wanted_of hD.tm hD.asz hg g1 g2 hX
          simp only [hw]
          by_cases hbw : bOf b = some want
          · rw [if_pos (by simp [hbw])]
            exact .inl (quietRun (g4 hbw))
          · rw [if_neg (by simp [hbw])]
            exact fin undef (by rw [g5 hbw]; exact .lit _)
      · -- it is one of those to come: the next that is not quiet
        rcases hnorm with hnorm | ⟨i0, k0, r, hr0, hk0⟩
        · subst hnorm; cases hin
        · subst hr0
          have hi0 : i = i0 := by
            rcases List.mem_cons.1 hin with h | h
            · exact h
            · exfalso
              obtain ⟨o', ho', _, _, h2, _⟩ := chkL_at (ops := ops) (d.map (·.1)) [] (i := i0) (k := k0) (suf := r) (by rw [← hD.split]; exact hL)
              obtain ⟨q, hq, rfl⟩ := List.mem_map.1 h
              obtain ⟨oq, hoq, he⟩ := h2 hk0 q hq
              rw [ho] at hoq; injection hoq with hoq; subst hoq
              unfold edgeIn at he
              rw [← Array.any_toList, List.any_eq_true] at he
              obtain ⟨e, hem, heb⟩ := he
              rw [Array.mem_toList_iff] at hem
              simp only [Bool.and_eq_true] at heb
              have hel := hup e hem heb.1
              have hmem : e.on ∈ i0 :: r.map (·.1) := by simpa using heb.2
              have : listed.getD e.on false = false := by
                rcases List.mem_cons.1 hmem with h | h
                · rw [h]; exact hD.rest (i0, k0) (by simp)
                · obtain ⟨q', hq', hh⟩ := List.mem_map.1 h
                  rw [← hh]; exact hD.rest q' (List.mem_cons_of_mem _ hq')
              rw [this] at hel; cases hel
          subst hi0
          have hag := fun t ht => agreeE hD hnd hL hP ho hup (t := t) ht
          have hopn : Opn E c w (ov ops T0 (pr d)) a o.op := opn_look hD.ok hD.tm hD.asz hoi hag
          have hfr := hD.fresh hnd hP ho
          have step : ∀ (t : TV) (u : Value) (c' : Cx) (S' : TS) (w' : World), Ok E w0 c' S' w' → Mono c w c' w' → RdT c' w' t u → (Keep S S' ∨ k0 = 2) → evD E N ops r K (putT (ov ops T0 (pr d)) o.dst t) S' →
              wpAny E.P .any ops Q' fuel (listed.setIfInBounds i true) (a.put o.dst u) w' := by
            intro t u c' S' w' h1 h2 h3 h4 h5
            have hD' := hD.done hnd hL hP ho hup h1 h2 h3 h4
            rw [← ov_snoc ho hfr, ← pr_snoc d (i, k0) t] at h5
            obtain ⟨d2, r2, hD2, hev2, hn2⟩ := Dr.normal (K := K) hnd hP r _ hD' h5
            exact ih _ d2 r2 S' c' w' _ hD2 hn2 hev2 hcnt' Q' (fun T S'' c'' w'' a' g1 g2 g3 g4 g5 g6 => hQ T S'' c'' w'' a' g1 (h2.trans g2) g3 g4 (by rw [g5, put_defers']) g6)
          have hk12 : k0 = 1 ∨ k0 = 2 := by
            have := (hlt (i, k0) (by rw [hD.split]; simp)).2
            simp only at this
            omega
          have run : (opT E o (ov ops T0 (pr d)) S fun t S' => (k0 = 1 → Keep S S') ∧ evD E N ops r K (putT (ov ops T0 (pr d)) o.dst t) S') → o.wp E.P a w (wpAny E.P .any ops Q' fuel (listed.setIfInBounds i true)) Q' := by
            intro h
            refine opT_ok h w0 c w a hD.ok hopn _ _ ?_
            rintro u w' ⟨t, c', S', h1, h2, h3, h4, h5⟩
            refine step t u c' S' w' h1 h2 h3 ?_ h5
            rcases hk12 with hk | hk
            · exact .inl (h4 hk)
            · exact .inr hk
          unfold evD at hev
          rw [ho] at hev
          simp only at hev
          split at hev
          · rename_i hg
            rw [if_neg hk0] at hev
            simp only
            rw [if_pos (by simp [Region.wanted, hg])]
            exact .inl (run hev)
          · rename_i j want hg
            split at hev
            · rename_i dd hdd
              split at hev
              · rename_i b hb
                obtain ⟨hN, h1, h2⟩ := hev
                have hX : ov ops T0 (pr (up listed d)) dd = .lit b := by rw [hag dd (looks_guard hg hdd)]; exact hb
                have hw := wanted_of hD.tm hD.asz hg hdd hN hX
                simp only [hw]
                by_cases hbw : bOf b = some want
                · rw [if_pos (by simp [hbw])]
                  have := h1 hbw
                  rw [if_neg hk0] at this
                  exact .inl (run this)
                · rw [if_neg (by simp [hbw])]
                  exact step (.lit undef) undef c S w hD.ok (Mono.refl c w) (.lit _) (.inl (Keep.refl S)) (h2 hbw)
              · exact hev.elim
            · exact hev.elim

theorem TWp.draw {id : Nat} {Q : Exit → (Nat → TV) → TS → Prop} {T : Nat → TV} {S : TS} (hm : E.P.follows .mixedOrders = true) (l : List Ent2) (hc : chkD ops l = true) (h : evD E N ops l (fun T S => Q .normal T S) T S) : TWp E N (.region id ops true) Q T S := by
  intro hi w0 c w a hk ht hs
  unfold chkD at hc
  simp only [Bool.and_eq_true] at hc
  obtain ⟨⟨⟨⟨h1, h2⟩, h3⟩, h4⟩, h5⟩ := hc
  have hnd := noDup_iff h3
  have hlt : ∀ p ∈ l, p.1 < ops.size ∧ p.2 ≤ 2 := fun p hp => by
    have := List.all_eq_true.1 h5 p hp
    simpa using this
  have hcov : ∀ i, i < ops.size → i ∈ l.map (·.1) := fun i hi => by
    have := List.all_eq_true.1 h4 i (List.mem_range.2 hi)
    simpa using this
  have hinb : ∀ o ∈ ops.toList, opInb N o = true := fun o ho => List.all_eq_true.1 hi o ho
  have hfalse : ∀ j, (Array.replicate ops.size false).getD j false = false := by
    intro j
    rw [Array.getD_eq_getD_getElem?, Array.getElem?_replicate]
    split <;> rfl
  refine wp_region_any hm ?_
  have hdr := hk.rel.drew
  have hD : Dr E N ops l T w0 (Array.replicate ops.size false) [] l S c w.drew a :=
    ⟨rfl, by simp, fun p _ => hfalse _, fun i o _ h => (by rw [hfalse] at h; cases h), hk.step hdr.1 hdr.2, by simpa [up, pr, ov_nil] using ht.step hdr.2, hs, fun pre p v suf h _ => by simp at h⟩
  obtain ⟨d2, r2, hD2, hev2, hn2⟩ := Dr.normal (K := fun T S => Q .normal T S) hnd h2 l [] hD h
  have hcnt : ((l.map (·.1)).filter fun j => !(Array.replicate ops.size false).getD j false).length = ops.size := by
    have : (l.map (·.1)).filter (fun j => !(Array.replicate ops.size false).getD j false) = l.map (·.1) := by
      apply List.filter_eq_self.2
      intro j _
      rw [hfalse]; rfl
    rw [this]
    have hp : (l.map (·.1)).Perm (List.range ops.size) := by
      refine (List.perm_ext_iff_of_nodup hnd List.nodup_range).2 fun j => ?_
      rw [List.mem_range]
      constructor
      · intro hj
        obtain ⟨p, hp, rfl⟩ := List.mem_map.1 hj
        exact (hlt p hp).1
      · exact hcov j
    rw [hp.length_eq, List.length_range]
  exact evD_main (K := fun T S => Q .normal T S) hnd h1 h2 hcov hlt hinb ops.size _ d2 r2 S c w.drew a hD2 hn2 hev2 hcnt _ (fun T' S' c' w' a' g1 g2 g3 g4 g5 g6 => ⟨T', S', c', g1, hdr.2.trans g2, g3, g4, g5, g6⟩)
end
end Go.Proofs.YteafcknljhglkaaDoor.TL
