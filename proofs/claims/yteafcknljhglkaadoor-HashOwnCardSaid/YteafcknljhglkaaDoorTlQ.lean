/-
  Regions whose order is drawn: the theorem.
-/
import Derived.Test.YteafcknljhglkaaDoorTlP
set_option linter.unusedVariables false
set_option linter.unusedSimpArgs false
namespace Go.Proofs.YteafcknljhglkaaDoor.TL
open Go.RowKit

theorem chkL_at {ops : Array Oper} : ∀ (pre : List Ent2) (ahead : List Nat) {i k : Nat} {suf : List Ent2}, chkL ops ahead (pre ++ (i, k) :: suf) = true →
    ∃ o, ops[i]? = some o ∧ (∀ e ∈ o.after, Region.binds .any e = true → e.on ∈ ahead ∨ e.on ∈ pre.map (·.1)) ∧ (∀ q ∈ suf, dep ops i q.1 = false) ∧
      (k ≠ 0 → ∀ q ∈ suf, ∃ oq, ops[q.1]? = some oq ∧ edgeIn oq (i :: suf.map (·.1)) = true) ∧ (k = 2 → ∀ q ∈ pre, dep ops i q.1 = true)
  | [], ahead, i, k, suf, h => by
    simp only [List.nil_append, chkL] at h
    split at h
    · cases h
    · rename_i o ho
      simp only [Bool.and_eq_true, Bool.or_eq_true, List.all_eq_true, beq_iff_eq] at h
      obtain ⟨⟨⟨⟨h1, h2⟩, h3⟩, h4⟩, _⟩ := h
      refine ⟨o, ho, fun e he hb => ?_, fun q hq => ?_, fun hk q hq => ?_, fun _ q hq => by cases hq⟩
      · have := Array.all_eq_true_iff_forall_mem.1 h1 e he
        simp only [hb, Bool.not_true, Bool.false_or] at this
        exact .inl (by simpa using this)
      · have := h2 q hq
        simpa using this
      · rcases h3 with h3 | h3
        · exact absurd h3 hk
        · have := h3 q hq
          split at this
          · rename_i oq hoq; exact ⟨oq, hoq, this⟩
          · cases this
  | (i', k') :: pre, ahead, i, k, suf, h => by
    simp only [List.cons_append, chkL] at h
    split at h
    · cases h
    · rename_i o' ho'
      simp only [Bool.and_eq_true] at h
      obtain ⟨⟨⟨⟨h1, h2⟩, h3⟩, h4⟩, h5⟩ := h
      obtain ⟨o, g1, g2, g3, g4, g5⟩ := chkL_at pre (i' :: ahead) h5
      refine ⟨o, g1, fun e he hb => ?_, g3, g4, fun hk q hq => ?_⟩
      · rcases g2 e he hb with h | h
        · rcases List.mem_cons.1 h with h | h
          · exact .inr (by simp [h])
          · exact .inl h
        · exact .inr (by simp only [List.map_cons, List.mem_cons]; exact .inr h)
      · rcases List.mem_cons.1 hq with h | h
        · subst h
          subst hk
          -- read off the later entry's own check
          have := chkL_two pre (i' :: ahead) h5 rfl
          exact this i' (by simp)
        · exact g5 hk q h
where
  chkL_two {ops : Array Oper} : ∀ (pre : List Ent2) (ahead : List Nat) {i k : Nat} {suf : List Ent2}, chkL ops ahead (pre ++ (i, k) :: suf) = true → k = 2 → ∀ q ∈ ahead, dep ops i q = true
    | [], ahead, i, k, suf, h, hk => by
      simp only [List.nil_append, chkL] at h
      split at h
      · cases h
      · simp only [Bool.and_eq_true, Bool.or_eq_true, List.all_eq_true] at h
        obtain ⟨⟨⟨⟨h1, h2⟩, h3⟩, h4⟩, _⟩ := h
        rcases h4 with h4 | h4
        · rw [hk] at h4; simp at h4
        · exact h4
    | (i', k') :: pre, ahead, i, k, suf, h, hk => by
      simp only [List.cons_append, chkL] at h
      split at h
      · cases h
      · simp only [Bool.and_eq_true] at h
        intro q hq
        exact chkL_two pre (i' :: ahead) h.2 hk q (List.mem_cons_of_mem _ hq)

theorem chkP_at {ops : Array Oper} {l : List Nat} (h : chkP ops l = true) {i k : Nat} (hi : i ∈ l) (hk : k ∈ l) (hne : i ≠ k) {oi ok : Oper} (ho : ops[i]? = some oi) (hok : ops[k]? = some ok) {d : Nat} (hd : oi.dst = some d) :
    (d ∈ ok.looksAt ops → dep ops i k = true ∨ dep ops k i = true) ∧ ok.dst ≠ some d := by
  unfold chkP at h
  have h1 := List.all_eq_true.1 (List.all_eq_true.1 h i hi) k hk
  simp only [Bool.or_eq_true, beq_iff_eq, ho, hok, hd, Bool.and_eq_true] at h1
  rcases h1 with h1 | ⟨h1, h2⟩
  · exact absurd h1 hne
  · refine ⟨fun hm => ?_, fun hh => by rw [hh] at h2; simp at h2⟩
    rcases h1 with (h1 | h1) | h1
    · simp at h1; exact absurd hm h1
    · exact .inl h1
    · exact .inr h1

def Pend (E : Env) (N : Nat) (ops : Array Oper) (i : Nat) (T : Nat → TV) (S : TS) (v : TV) : Prop :=
  ∃ o, ops[i]? = some o ∧ match o.guard with
    | none => QStab E o T S v
    | some (j, want) => ∃ dd b, (ops[j]?).bind (·.dst) = some dd ∧ dd < N ∧ T dd = .lit b ∧ (bOf b = some want → QStab E o T S v) ∧ (bOf b ≠ some want → v = .lit undef)

def pr (d : List (Ent2 × TV)) : List (Nat × TV) := d.map fun p => (p.1.1, p.2)
def up (listed : Array Bool) (d : List (Ent2 × TV)) : List (Ent2 × TV) := d.filter fun p => listed.getD p.1.1 false

structure Dr (E : Env) (N : Nat) (ops : Array Oper) (l : List Ent2) (T0 : Nat → TV) (w0 : World) (listed : Array Bool) (d : List (Ent2 × TV)) (rest : List Ent2) (S : TS) (c : Cx) (w : World) (a : Act) : Prop where
  split : l = d.map (·.1) ++ rest
  size : listed.size = ops.size
  rest : ∀ p ∈ rest, listed.getD p.1 false = false
  dc : DC ops listed
  ok : Ok E w0 c S w
  tm : Tmps c w (ov ops T0 (pr (up listed d))) a
  asz : a.tmps.size = N
  pend : ∀ pre p v suf, d = pre ++ (p, v) :: suf → listed.getD p.1 false = false → p.2 = 0 ∧ Pend E N ops p.1 (ov ops T0 (pr pre)) S v

theorem QStab.keep {E : Env} {o : Oper} {T : Nat → TV} {S S' : TS} {v : TV} (h : QStab E o T S v) (hw : wfS S) (hk : Keep S S') : QStab E o T S' v :=
  fun S'' _ hk' => h S'' hw (hk.trans hk')
theorem Pend.keep {E : Env} {N : Nat} {ops : Array Oper} {i : Nat} {T : Nat → TV} {S S' : TS} {v : TV} (h : Pend E N ops i T S v) (hw : wfS S) (hk : Keep S S') : Pend E N ops i T S' v := by
  obtain ⟨o, h1, h2⟩ := h
  refine ⟨o, h1, ?_⟩
  split at h2
  · exact h2.keep hw hk
  · obtain ⟨dd, b, g1, g2, g3, g4, g5⟩ := h2
    exact ⟨dd, b, g1, g2, g3, fun hb => (g4 hb).keep hw hk, g5⟩

section
variable {E : Env} {N : Nat} {ops : Array Oper} {l : List Ent2} {T0 : Nat → TV} {w0 : World}

theorem mem_pr {d : List (Ent2 × TV)} {x : Nat × TV} (h : x ∈ pr d) : ∃ k, ((x.1, k), x.2) ∈ d := by
  unfold pr at h
  obtain ⟨p, hp, rfl⟩ := List.mem_map.1 h
  exact ⟨p.1.2, hp⟩

/-- Entries of the order are told apart by their numbers. -/
theorem pr_uniq {d : List (Ent2 × TV)} {rest : List Ent2} (hsp : l = d.map (·.1) ++ rest) (hnd : (l.map (·.1)).Nodup) {x y : Nat × TV} (hx : x ∈ pr d) (hy : y ∈ pr d) (h : x.1 = y.1) : x = y := by
  have hd : (d.map fun p => p.1.1).Nodup := by
    rw [hsp, List.map_append, List.map_map] at hnd
    exact (List.nodup_append.1 hnd).1
  unfold pr at hx hy
  obtain ⟨p, hp, rfl⟩ := List.mem_map.1 hx
  obtain ⟨q, hq, rfl⟩ := List.mem_map.1 hy
  simp only at h
  have : p = q := by
    clear hsp hx hy
    induction d with
    | nil => cases hp
    | cons z d ih =>
      rw [List.map_cons, List.nodup_cons] at hd
      rcases List.mem_cons.1 hp with e1 | m1
      · rcases List.mem_cons.1 hq with e2 | m2
        · rw [e1, e2]
        · subst e1; exact (hd.1 (List.mem_map.2 ⟨q, m2, h.symm⟩)).elim
      · rcases List.mem_cons.1 hq with e2 | m2
        · subst e2; exact (hd.1 (List.mem_map.2 ⟨p, m1, h⟩)).elim
        · exact ih hd.2 m1 m2
  rw [this]

theorem pr_dst_uniq {d : List (Ent2 × TV)} {rest : List Ent2} (hsp : l = d.map (·.1) ++ rest) (hnd : (l.map (·.1)).Nodup) (hP : chkP ops (l.map (·.1)) = true) {x y : Nat × TV} (hx : x ∈ pr d) (hy : y ∈ pr d) {t : Nat}
    (h1 : (ops[x.1]?).bind (·.dst) = some t) (h2 : (ops[y.1]?).bind (·.dst) = some t) : x = y := by
  by_cases hxy : x.1 = y.1
  · exact pr_uniq hsp hnd hx hy hxy
  · obtain ⟨ox, hox, hdx⟩ := Option.bind_eq_some_iff.1 h1
    obtain ⟨oy, hoy, hdy⟩ := Option.bind_eq_some_iff.1 h2
    have hml : ∀ z ∈ pr d, z.1 ∈ l.map (·.1) := by
      intro z hz
      obtain ⟨k, hk⟩ := mem_pr hz
      rw [hsp, List.map_append, List.map_map]
      exact List.mem_append_left _ (List.mem_map.2 ⟨_, hk, rfl⟩)
    exact absurd hdy (chkP_at hP (hml x hx) (hml y hy) hxy hox hoy hdx).2

theorem opn_look {c : Cx} {w : World} {X T : Nat → TV} {a : Act} {o : Oper} {S : TS} (hk : Ok E w0 c S w) (ht : Tmps c w X a) (hs : a.tmps.size = N) (hi : opInb N o = true) (hl : ∀ t ∈ o.looksAt ops, X t = T t) : Opn E c w T a o.op := by
  intro x hx
  have hb := List.all_eq_true.1 hi x hx
  have := evO_ok hk ht x (by rw [hs]; exact hb)
  cases x with
  | tmp t =>
    have : X t = T t := hl t (by
      unfold Oper.looksAt
      refine List.mem_append_left _ (List.mem_filterMap.2 ⟨.tmp t, by simpa using hx, rfl⟩))
    simp only [evO, ← this] at *
    assumption
  | _ => exact this

/-- What a waiting operation looks at is what it saw in its turn. -/
theorem agree {listed : Array Bool} {d : List (Ent2 × TV)} {rest : List Ent2} {S : TS} {c : Cx} {w : World} {a : Act} (hD : Dr E N ops l T0 w0 listed d rest S c w a) (hnd : (l.map (·.1)).Nodup) (hL : chkL ops [] l = true) (hP : chkP ops (l.map (·.1)) = true)
    {pre suf : List (Ent2 × TV)} {i k : Nat} {v : TV} {o : Oper} (hd : d = pre ++ ((i, k), v) :: suf) (hul : listed.getD i false = false) (ho : ops[i]? = some o) (hup : Up o listed) {t : Nat} (ht : t ∈ o.looksAt ops) :
    ov ops T0 (pr (up listed d)) t = ov ops T0 (pr pre) t := by
  have hsp : l = pre.map (·.1) ++ (i, k) :: (suf.map (·.1) ++ rest) := by rw [hD.split, hd]; simp
  obtain ⟨o', ho', _, hsuf, _, _⟩ := chkL_at (pre.map (·.1)) [] (by rw [← hsp]; exact hL)
  have hil : i ∈ l.map (·.1) := by rw [hsp]; simp
  have hpd : ∀ x ∈ pr pre, x ∈ pr d := by
    intro x hx; rw [hd]; unfold pr at *; rw [List.map_append]; exact List.mem_append_left _ hx
  have hml : ∀ z ∈ pr d, z.1 ∈ l.map (·.1) := by
    intro z hz
    obtain ⟨k, hk⟩ := mem_pr hz
    rw [hD.split, List.map_append, List.map_map]
    exact List.mem_append_left _ (List.mem_map.2 ⟨_, hk, rfl⟩)
  refine ov_congr ?_ ?_ ?_
  · intro x hx hxt
    obtain ⟨ox, hox, hdx⟩ := Option.bind_eq_some_iff.1 hxt
    unfold pr up at hx
    obtain ⟨p, hp, rfl⟩ := List.mem_map.1 hx
    obtain ⟨hpd', hpl⟩ := List.mem_filter.1 hp
    simp only at hox
    rw [hd] at hpd'
    rcases List.mem_append.1 hpd' with h | h
    · exact List.mem_map.2 ⟨p, h, rfl⟩
    · rcases List.mem_cons.1 h with h | h
      · subst h; simp only at hpl; rw [hul] at hpl; cases hpl
      · exfalso
        have hne : p.1.1 ≠ i := by intro hh; rw [hh] at hpl; rw [hul] at hpl; cases hpl
        have hpl' : p.1.1 ∈ l.map (·.1) := by
          rw [hsp]; simp only [List.map_append, List.map_cons, List.mem_append, List.mem_cons, List.mem_map]
          exact .inr (.inr (.inl ⟨p.1, ⟨p, h, rfl⟩, rfl⟩))
        rcases (chkP_at hP hpl' hil hne hox ho hdx).1 ht with h1 | h1
        · have := before_forced ops listed hD.dc p.1.1 i ox hox (hD.dc _ _ hox hpl) h1
          rw [hul] at this; cases this
        · have := hsuf p.1 (by simp only [List.mem_append, List.mem_map]; exact .inl ⟨p, h, rfl⟩)
          rw [h1] at this; cases this
  · intro x hx hxt
    obtain ⟨ox, hox, hdx⟩ := Option.bind_eq_some_iff.1 hxt
    unfold pr at hx
    obtain ⟨p, hp, rfl⟩ := List.mem_map.1 hx
    simp only at hox
    have hne : p.1.1 ≠ i := by
      intro hh
      rw [hsp] at hnd
      simp only [List.map_append, List.map_cons, List.map_map] at hnd
      have := (List.nodup_append.1 hnd).2.2 p.1.1 (List.mem_map.2 ⟨p, hp, rfl⟩) i (by simp)
      exact this hh
    have hpl' : p.1.1 ∈ l.map (·.1) := by
      rw [hsp]; simp only [List.map_append, List.map_cons, List.mem_append, List.mem_cons, List.mem_map]
      exact .inl ⟨p.1, ⟨p, hp, rfl⟩, rfl⟩
    have hlp : listed.getD p.1.1 false = true := by
      rcases (chkP_at hP hpl' hil hne hox ho hdx).1 ht with h1 | h1
      · exfalso
        obtain ⟨p1, p2, hpp⟩ := List.append_of_mem hp
        have hsp2 : l = p1.map (·.1) ++ (p.1.1, p.1.2) :: (p2.map (·.1) ++ (i, k) :: (suf.map (·.1) ++ rest)) := by rw [hsp, hpp]; simp
        obtain ⟨_, _, _, hs2, _, _⟩ := chkL_at (p1.map (·.1)) [] (by rw [← hsp2]; exact hL)
        have := hs2 (i, k) (by simp)
        rw [h1] at this; cases this
      · exact before_forced ops listed hD.dc i p.1.1 o ho hup h1
    unfold pr up
    exact List.mem_map.2 ⟨p, List.mem_filter.2 ⟨by rw [hd]; exact List.mem_append_left _ hp, hlp⟩, rfl⟩
  · intro x hx y hy h1 h2
    exact pr_dst_uniq hD.split hnd hP (hpd x hx) (hpd y hy) h1 h2

/-- The same for the next operation that is not quiet. -/
theorem agreeE {listed : Array Bool} {d : List (Ent2 × TV)} {rest : List Ent2} {S : TS} {c : Cx} {w : World} {a : Act} {i k : Nat} (hD : Dr E N ops l T0 w0 listed d ((i, k) :: rest) S c w a) (hnd : (l.map (·.1)).Nodup) (hL : chkL ops [] l = true) (hP : chkP ops (l.map (·.1)) = true)
    {o : Oper} (ho : ops[i]? = some o) (hup : Up o listed) {t : Nat} (ht : t ∈ o.looksAt ops) :
    ov ops T0 (pr (up listed d)) t = ov ops T0 (pr d) t := by
  have hml : ∀ z ∈ pr d, z.1 ∈ l.map (·.1) := by
    intro z hz
    obtain ⟨k, hk⟩ := mem_pr hz
    rw [hD.split, List.map_append, List.map_map]
    exact List.mem_append_left _ (List.mem_map.2 ⟨_, hk, rfl⟩)
  have hil : i ∈ l.map (·.1) := by rw [hD.split]; simp
  refine ov_congr ?_ ?_ ?_
  · intro x hx _
    unfold pr up at *
    obtain ⟨p, hp, rfl⟩ := List.mem_map.1 hx
    exact List.mem_map.2 ⟨p, (List.mem_filter.1 hp).1, rfl⟩
  · intro x hx hxt
    have hxl := hml x hx
    obtain ⟨ox, hox, hdx⟩ := Option.bind_eq_some_iff.1 hxt
    unfold pr at hx
    obtain ⟨p, hp, rfl⟩ := List.mem_map.1 hx
    simp only at hox hxl
    have hne : p.1.1 ≠ i := by
      intro hh
      have hnd' := hnd
      rw [hD.split] at hnd'
      simp only [List.map_append, List.map_cons, List.map_map] at hnd'
      have := (List.nodup_append.1 hnd').2.2 p.1.1 (List.mem_map.2 ⟨p, hp, rfl⟩) i (by simp)
      exact this hh
    have hlp : listed.getD p.1.1 false = true := by
      rcases (chkP_at hP hxl hil hne hox ho hdx).1 ht with h1 | h1
      · exfalso
        obtain ⟨p1, p2, hpp⟩ := List.append_of_mem hp
        have hsp2 : l = p1.map (·.1) ++ (p.1.1, p.1.2) :: (p2.map (·.1) ++ (i, k) :: rest) := by rw [hD.split, hpp]; simp
        obtain ⟨_, _, _, hs2, _, _⟩ := chkL_at (p1.map (·.1)) [] (by rw [← hsp2]; exact hL)
        have := hs2 (i, k) (by simp)
        rw [h1] at this; cases this
      · exact before_forced ops listed hD.dc i p.1.1 o ho hup h1
    unfold pr up
    exact List.mem_map.2 ⟨p, List.mem_filter.2 ⟨hp, hlp⟩, rfl⟩
  · intro x hx y hy h1 h2
    exact pr_dst_uniq hD.split hnd hP hx hy h1 h2
end
end Go.Proofs.YteafcknljhglkaaDoor.TL
