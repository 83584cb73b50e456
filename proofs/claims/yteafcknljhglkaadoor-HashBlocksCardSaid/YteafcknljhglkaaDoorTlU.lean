/-
  What a call has made and nobody sees any more may be forgotten.
-/
import Derived.Test.YteafcknljhglkaaDoorTlT
set_option linter.unusedVariables false
set_option linter.unusedSimpArgs false
namespace Go.Proofs.YteafcknljhglkaaDoor.TL
open Go.RowKit

/-- The same value, where the objects of L are called n, n + 1, .. -/
inductive Ren (n : Nat) (L : List Nat) : TV → TV → Prop
  | lit (v : Value) : Ren n L (.lit v) (.lit v)
  | sl0 (g : Tag) (s : Nat) (xs : List D) (h : g = .none ∨ g = .full ∨ ∃ k, g = .own k ∧ k < n) : Ren n L (.sl g s xs) (.sl g s xs)
  | sl (i k s : Nat) (xs : List D) (h : L[i]? = some k) : Ren n L (.sl (.own k) s xs) (.sl (.own (n + i)) s xs)
  | slN (g : Tag) (s : Nat) (xs : List D) : Ren n L (.sl g s xs) (.sl .none s xs)
  | eptr (s : Nat) (d : D) : Ren n L (.eptr s d) (.eptr s d)
  | ptr0 (id off : Nat) (h : id < n) : Ren n L (.ptr id off) (.ptr id off)
  | ptr (i id off : Nat) (h : L[i]? = some id) : Ren n L (.ptr id off) (.ptr (n + i) off)
  | vs0 (id off s l : Nat) (h : id < n) : Ren n L (.vs id off s l) (.vs id off s l)
  | vs (i id off s l : Nat) (h : L[i]? = some id) : Ren n L (.vs id off s l) (.vs (n + i) off s l)
  | mp0 (id : Nat) (h : id < n) : Ren n L (.mp id) (.mp id)
  | mp (i id : Nat) (h : L[i]? = some id) : Ren n L (.mp id) (.mp (n + i))
  | fn (f : Fn) (a b a' b' : List TV) (h1 : a'.length = a.length) (h2 : b'.length = b.length) (h3 : ∀ (j : Nat) t t', a[j]? = some t → a'[j]? = some t' → Ren n L t t') (h4 : ∀ (j : Nat) t t', b[j]? = some t → b'[j]? = some t' → Ren n L t t') : Ren n L (.fn f a b) (.fn f a' b')
  | agg (a a' : List TV) (h1 : a'.length = a.length) (h3 : ∀ (j : Nat) t t', a[j]? = some t → a'[j]? = some t' → Ren n L t t') : Ren n L (.agg a) (.agg a')
  | tup (a a' : List TV) (h1 : a'.length = a.length) (h3 : ∀ (j : Nat) t t', a[j]? = some t → a'[j]? = some t' → Ren n L t t') : Ren n L (.tup a) (.tup a')
  | unk (t : TV) : Ren n L t .unk

inductive RenO (n : Nat) (L : List Nat) : TObj → TObj → Prop
  | gone (o : TObj) : RenO n L o .gone
  | lin : RenO n L .lin .lin
  | cells (e : TypeId) (a a' : List TV) (h1 : a'.length = a.length) (h : ∀ (j : Nat) t t', a[j]? = some t → a'[j]? = some t' → Ren n L t t') : RenO n L (.cells e a) (.cells e a')
  | map (a a' : List (Value × TV)) (h1 : a'.length = a.length) (h : ∀ (j : Nat) t t', a[j]? = some t → a'[j]? = some t' → t'.1 = t.1 ∧ Ren n L t.2 t'.2) : RenO n L (.map a) (.map a')

structure CxR (n : Nat) (L : List Nat) (c c2 : Cx) : Prop where
  A : c2.A = c.A
  lo : ∀ id, id < n → c2.γ id = c.γ id
  hi : ∀ (i k : Nat), L[i]? = some k → c2.γ (n + i) = c.γ k
  n : c2.n = n + L.length

theorem Ren.ok {n : Nat} {L : List Nat} {c c2 : Cx} {w : World} (hc : CxR n L c c2) {t t' : TV} (h : Ren n L t t') : ∀ {v : Value}, RdT c w t v → RdT c2 w t' v := by
  induction h with
  | lit v => intro u hr; rw [hr.lit_inv]; exact .lit _
  | sl0 g s xs h =>
    intro u hr
    cases hr with
    | sl _ _ _ _ h1 hg =>
      refine .sl _ _ _ _ (by rw [hc.A]; exact h1) ?_
      rcases h with rfl | rfl | ⟨k, rfl, hk⟩
      · trivial
      · cases u <;> exact hg
      · cases u with
        | slice a m cap =>
          obtain ⟨h0, h2⟩ := hg
          refine ⟨by have := hc.n; omega, ?_⟩
          rcases h2 with h2 | ⟨b, o, e, z, g1, g2, g3⟩
          · exact .inl h2
          · exact .inr ⟨b, o, e, z, g1, by rw [hc.lo k hk]; exact g2, g3⟩
        | _ => exact hg
  | sl i k s xs h =>
    intro u hr
    cases hr with
    | sl _ _ _ _ h1 hg =>
      refine .sl _ _ _ _ (by rw [hc.A]; exact h1) ?_
      cases u with
      | slice a m cap =>
        obtain ⟨h0, h2⟩ := hg
        refine ⟨by have := hc.n; have := (List.getElem?_eq_some_iff.1 h).1; omega, ?_⟩
        rcases h2 with h2 | ⟨b, o, e, z, g1, g2, g3⟩
        · exact .inl h2
        · exact .inr ⟨b, o, e, z, g1, by rw [hc.hi i k h]; exact g2, g3⟩
      | _ => exact hg
  | slN g s xs =>
    intro u hr
    cases hr with
    | sl _ _ _ _ h1 hg => exact .sl _ _ _ _ (by rw [hc.A]; exact h1) trivial
  | eptr s d =>
    intro u hr
    cases hr with
    | eptr _ _ b o h => exact .eptr _ _ b o (by rw [hc.A]; exact h)
  | ptr0 id off h =>
    intro u hr
    cases hr with
    | ptr _ _ b e hγ => exact .ptr _ _ b e (by rw [hc.lo _ h]; exact hγ)
  | ptr i id off h =>
    intro u hr
    cases hr with
    | ptr _ _ b e hγ => exact .ptr _ _ b e (by rw [hc.hi _ _ h]; exact hγ)
  | vs0 id off s l h =>
    intro u hr
    cases hr with
    | vs _ _ _ _ cap b e hγ hcc hz => exact .vs _ _ _ _ cap b e (by rw [hc.lo _ h]; exact hγ) hcc hz
    | vsN => exact .vsN _ _ _ _ (by have := hc.n; omega)
  | vs i id off s l h =>
    intro u hr
    cases hr with
    | vs _ _ _ _ cap b e hγ hcc hz => exact .vs _ _ _ _ cap b e (by rw [hc.hi _ _ h]; exact hγ) hcc hz
    | vsN => exact .vsN _ _ _ _ (by have := hc.n; have := (List.getElem?_eq_some_iff.1 h).1; omega)
  | mp0 id h =>
    intro u hr
    cases hr with
    | mp _ b e hγ => exact .mp _ b e (by rw [hc.lo _ h]; exact hγ)
  | mp i id h =>
    intro u hr
    cases hr with
    | mp _ b e hγ => exact .mp _ b e (by rw [hc.hi _ _ h]; exact hγ)
  | fn f a b a' b' h1 h2 _ _ ih3 ih4 =>
    intro u hr
    cases hr with
    | fn _ _ _ vs ws k1 k2 k3 k4 =>
      refine .fn _ _ _ vs ws (by omega) (by omega) (fun j t v g1 g2 => ?_) fun j t v g1 g2 => ?_
      · have hj : j < a.length := by rw [← h1]; exact (List.getElem?_eq_some_iff.1 g1).1
        exact ih3 j _ t (List.getElem?_eq_getElem hj) g1 (k3 j _ v (List.getElem?_eq_getElem hj) g2)
      · have hj : j < b.length := by rw [← h2]; exact (List.getElem?_eq_some_iff.1 g1).1
        exact ih4 j _ t (List.getElem?_eq_getElem hj) g1 (k4 j _ v (List.getElem?_eq_getElem hj) g2)
  | agg a a' h1 _ ih =>
    intro u hr
    cases hr with
    | agg _ vs k1 k3 =>
      refine .agg _ vs (by omega) fun j t v g1 g2 => ?_
      have hj : j < a.length := by rw [← h1]; exact (List.getElem?_eq_some_iff.1 g1).1
      exact ih j _ t (List.getElem?_eq_getElem hj) g1 (k3 j _ v (List.getElem?_eq_getElem hj) g2)
  | tup a a' h1 _ ih =>
    intro u hr
    cases hr with
    | tup _ vs k1 k3 =>
      refine .tup _ vs (by omega) fun j t v g1 g2 => ?_
      have hj : j < a.length := by rw [← h1]; exact (List.getElem?_eq_some_iff.1 g1).1
      exact ih j _ t (List.getElem?_eq_getElem hj) g1 (k3 j _ v (List.getElem?_eq_getElem hj) g2)
  | unk t => intro u _; exact .unk _

/-- What was so before and reads the same behind: the ids in it are all old. -/
theorem Ren.old {c c1 c2 : Cx} {w w1 : World} {n : Nat} {L : List Nat} (hc : CxR n L c1 c2) (hn : c.n = n) (hd : ∀ id x, c.γ id = some x → id < n) {t : TV} {v0 : Value} (h0 : RdT c w t v0) : ∀ {v : Value}, RdT c1 w1 t v → RdT c2 w1 t v := by
  induction h0 with
  | lit v => intro u hr; rw [hr.lit_inv]; exact .lit _
  | sl g s xs v0 _ hg =>
    intro u hr
    refine (Ren.sl0 g s xs ?_).ok hc hr
    cases g with
    | none => exact .inl rfl
    | full => exact .inr (.inl rfl)
    | own k =>
      refine .inr (.inr ⟨k, rfl, ?_⟩)
      cases v0 with
      | slice a m cap => exact hn ▸ hg.1
      | _ => exact hg.elim
  | vs id off s len cap b e hγ _ _ => intro u hr; exact (Ren.vs0 id off s len (hd _ _ hγ)).ok hc hr
  | vsN id off s a hn2 => intro u hr; exact (Ren.vs0 id off s 0 (by omega)).ok hc hr
  | ptr id off b e hγ => intro u hr; exact (Ren.ptr0 id off (hd _ _ hγ)).ok hc hr
  | eptr s d b o _ => intro u hr; exact (Ren.eptr s d).ok hc hr
  | mp id b e hγ => intro u hr; exact (Ren.mp0 id (hd _ _ hγ)).ok hc hr
  | fn f first cap vs ws h1 h2 _ _ ih3 ih4 =>
    intro u hr
    cases hr with
    | fn _ _ _ vs' ws' k1 k2 k3 k4 =>
      refine .fn _ _ _ vs' ws' k1 k2 (fun j t v g1 g2 => ?_) fun j t v g1 g2 => ?_
      · have hj : j < vs.size := by rw [h1]; exact (List.getElem?_eq_some_iff.1 g1).1
        exact ih3 j t _ g1 (Array.getElem?_eq_getElem hj) (k3 j t v g1 g2)
      · have hj : j < ws.size := by rw [h2]; exact (List.getElem?_eq_some_iff.1 g1).1
        exact ih4 j t _ g1 (Array.getElem?_eq_getElem hj) (k4 j t v g1 g2)
  | agg cs vs hl _ ih =>
    intro u hr
    cases hr with
    | agg _ vs' k1 k3 =>
      refine .agg _ vs' k1 fun j t v g1 g2 => ?_
      have hj : j < vs.size := by rw [hl]; exact (List.getElem?_eq_some_iff.1 g1).1
      exact ih j t _ g1 (Array.getElem?_eq_getElem hj) (k3 j t v g1 g2)
  | tup cs vs hl _ ih =>
    intro u hr
    cases hr with
    | tup _ vs' k1 k3 =>
      refine .tup _ vs' k1 fun j t v g1 g2 => ?_
      have hj : j < vs.size := by rw [hl]; exact (List.getElem?_eq_some_iff.1 g1).1
      exact ih j t _ g1 (Array.getElem?_eq_getElem hj) (k3 j t v g1 g2)
  | unk v => intro u _; exact .unk _

def newCx (n : Nat) (L : List Nat) (c : Cx) : Cx := { A := c.A, γ := fun id => if id < n then c.γ id else (L[id - n]?).bind c.γ, n := n + L.length }
theorem newCx_ok (n : Nat) (L : List Nat) (c : Cx) : CxR n L c (newCx n L c) := by
  refine ⟨rfl, fun id h => by simp [newCx, h], fun i k h => ?_, rfl⟩
  have h1 : ¬ (n + i < n) := by omega
  have h2 : n + i - n = i := by omega
  simp only [newCx]
  rw [if_neg h1, h2, h]; rfl

/-- The state behind, its new objects called anew. -/
structure Fgt (S S1 : TS) (L : List Nat) (S2 : TS) : Prop where
  n : S2.n = S.n + L.length
  nd : L.Nodup
  ge : ∀ k ∈ L, S.n ≤ k
  lo : ∀ id, id < S.n → (S2.objs id = S.objs id ∧ S1.objs id = S.objs id) ∨ RenO S.n L (S1.objs id) (S2.objs id)
  hi : ∀ (i k : Nat), L[i]? = some k → RenO S.n L (S1.objs k) (S2.objs (S.n + i))
  wf : wfS S2

theorem RenO.live {n : Nat} {L : List Nat} {o o' : TObj} (h : RenO n L o o') (hl : o'.live = true) : o.live = true := by
  cases h <;> first | rfl | cases hl

theorem objOk_ren {w0 w : World} {n : Nat} {L : List Nat} {c c2 : Cx} (hc : CxR n L c c2) {k id : Nat} (hγ : c2.γ id = c.γ k) {o o' : TObj} (hr : RenO n L o o') (h : ObjOk w0 c w k o) : ObjOk w0 c2 w id o' := by
  cases hr with
  | gone => trivial
  | lin => exact fun b e hb => by rw [hγ] at hb; have := h b e hb; rw [hc.A]; exact this
  | cells e a a' h1 h3 =>
    refine ⟨fun hn => ?_, fun b z hz => ?_⟩
    · rw [hγ] at hn
      have := h.1 hn
      subst this
      exact List.eq_nil_of_length_eq_zero (by simpa using h1)
    rw [hγ] at hz
    obtain ⟨g2, ⟨arr, fr, g3, gz, gl⟩, gf, g4, g5⟩ := h.2 b z hz
    refine ⟨g2, ⟨arr, fr, g3, gz, by rw [h1]; exact gl⟩, gf, fun j x hx => ?_, by rw [hc.A]; exact g5⟩
    have hj : j < a.length := by rw [← h1]; exact (List.getElem?_eq_some_iff.1 hx).1
    obtain ⟨v, k1, k3⟩ := g4 j _ (List.getElem?_eq_getElem hj)
    exact ⟨v, k1, (h3 j _ x (List.getElem?_eq_getElem hj) hx).ok hc k3⟩
  | map a a' h1 h3 =>
    obtain ⟨b, z, g1, g2, ents, clock, g3, g4, g5⟩ := h
    refine ⟨b, z, by rw [hγ]; exact g1, g2, ents, clock, g3, by omega, fun j x m hx hm => ?_⟩
    have hj : j < a.length := by rw [← h1]; exact (List.getElem?_eq_some_iff.1 hx).1
    obtain ⟨k1, k2⟩ := g5 j _ m (List.getElem?_eq_getElem hj) hm
    obtain ⟨q1, q2⟩ := h3 j _ x (List.getElem?_eq_getElem hj) hx
    exact ⟨by rw [q1]; exact k1, q2.ok hc k2⟩

theorem objOk_old {w0 w w1 : World} {c c1 c2 : Cx} {n : Nat} {L : List Nat} (hc : CxR n L c1 c2) (hn : c.n = n) (hd : ∀ id x, c.γ id = some x → id < n) {id : Nat} (hi : id < n) {o : TObj} (h0 : ObjOk w0 c w id o) (h : ObjOk w0 c1 w1 id o) : ObjOk w0 c2 w1 id o := by
  have hγ := hc.lo id hi
  cases o with
  | gone => trivial
  | lin => exact fun b e hb => by rw [hγ] at hb; have := h b e hb; rw [hc.A]; exact this
  | cells e a =>
    refine ⟨fun hn => h.1 (by rw [← hγ]; exact hn), fun b z hz => ?_⟩
    rw [hγ] at hz
    obtain ⟨g2, g3, gf, g4, g5⟩ := h.2 b z hz
    refine ⟨g2, g3, gf, fun j x hx => ?_, by rw [hc.A]; exact g5⟩
    obtain ⟨v, k1, k3⟩ := g4 j x hx
    cases hc0 : c.γ id with
    | none => have := h0.1 hc0; subst this; simp at hx
    | some q =>
      obtain ⟨b0, z0⟩ := q
      obtain ⟨_, _, _, q4, _⟩ := h0.2 b0 z0 hc0
      obtain ⟨v0, _, q3⟩ := q4 j x hx
      exact ⟨v, k1, Ren.old hc hn hd q3 k3⟩
  | map a =>
    obtain ⟨b, z, g1, g2, ents, clock, g3, g4, g5⟩ := h
    obtain ⟨_, _, _, _, ents0, _, _, q4, q5⟩ := h0
    refine ⟨b, z, by rw [hγ]; exact g1, g2, ents, clock, g3, g4, fun j x m hx hm => ?_⟩
    obtain ⟨k1, k2⟩ := g5 j x m hx hm
    have hj : j < ents0.size := by rw [q4]; exact (List.getElem?_eq_some_iff.1 hx).1
    exact ⟨k1, Ren.old hc hn hd (q5 j x _ hx (Array.getElem?_eq_getElem hj)).2 k2⟩

theorem Ok.forget {E : Env} {w0 : World} {c c1 : Cx} {S S1 S2 : TS} {w w1 : World} {L : List Nat} (hk : Ok E w0 c S w) (hk1 : Ok E w0 c1 S1 w1) (m : Mono c w c1 w1) (hf : Fgt S S1 L S2) :
    Ok E w0 (newCx S.n L c1) S2 w1 ∧ Mono c w (newCx S.n L c1) w1 := by
  have hc := newCx_ok S.n L c1
  have hd : ∀ id x, c.γ id = some x → id < S.n := hk.rel.dom
  have objAll : ∀ id, ObjOk w0 c1 w1 id (S1.objs id) := by
    intro id
    rcases Nat.lt_or_ge id S1.n with h | h
    · exact hk1.rel.obj id h
    · rw [hk1.rel.wf id h]; trivial
  have src : ∀ id, (S2.objs id).live = true → ∃ k, (newCx S.n L c1).γ id = c1.γ k ∧ (S1.objs k).live = true ∧ ((id < S.n ∧ k = id) ∨ (S.n ≤ id ∧ L[id - S.n]? = some k)) := by
    intro id hl
    rcases Nat.lt_or_ge id S.n with h | h
    · refine ⟨id, hc.lo id h, ?_, .inl ⟨h, rfl⟩⟩
      rcases hf.lo id h with ⟨g1, g2⟩ | g
      · rw [g2, ← g1]; exact hl
      · exact g.live hl
    · have hlt : id < S2.n := by
        rcases Nat.lt_or_ge id S2.n with h' | h'
        · exact h'
        · rw [hf.wf id h'] at hl; cases hl
      have hn := hf.n
      have hi : id - S.n < L.length := by omega
      obtain ⟨i, rfl⟩ : ∃ i, id = S.n + i := ⟨id - S.n, by omega⟩
      have e : S.n + i - S.n = i := by omega
      rw [e] at hi ⊢
      have := List.getElem?_eq_getElem hi
      exact ⟨L[i], hc.hi i _ this, (hf.hi i _ this).live hl, .inr ⟨by omega, this⟩⟩
  have m' : Mono c w (newCx S.n L c1) w1 := ⟨m.A, m.cell, fun id x hx => by rw [hc.lo id (hd _ _ hx)]; exact m.γ _ _ hx, by rw [hc.n, hk.rel.cn]; omega⟩
  refine ⟨⟨⟨hk1.rel.below, ?_, ?_, ?_, hk1.rel.cell, hf.wf, by rw [hc.n, hf.n]⟩, fun g => (hk.glob g).step m'⟩, m'⟩
  · intro id x hx
    rw [hf.n]
    rcases Nat.lt_or_ge id S.n with h | h
    · omega
    · have : ((L[id - S.n]?).bind c1.γ) = some x := by
        have := hx
        unfold newCx at this
        simp only at this
        rw [if_neg (by omega)] at this
        exact this
      cases h1 : L[id - S.n]? with
      | none => rw [h1] at this; cases this
      | some k => have := (List.getElem?_eq_some_iff.1 h1).1; omega
  · intro id hid
    rcases Nat.lt_or_ge id S.n with h | h
    · rcases hf.lo id h with ⟨g1, g2⟩ | g
      · rw [g1]
        have h1 := objAll id
        rw [g2] at h1
        exact objOk_old hc hk.rel.cn hd h (hk.rel.obj id h) h1
      · exact objOk_ren hc (hc.lo id h) g (objAll id)
    · obtain ⟨i, rfl⟩ : ∃ i, id = S.n + i := ⟨id - S.n, by omega⟩
      have hn := hf.n
      have hi : i < L.length := by omega
      have := List.getElem?_eq_getElem hi
      exact objOk_ren hc (hc.hi i _ this) (hf.hi i _ this) (objAll _)
  · intro i j b e e' hi hj hli hlj hbi hbj
    obtain ⟨k, g1, g2, g3⟩ := src i hli
    obtain ⟨k', q1, q2, q3⟩ := src j hlj
    rw [g1] at hbi
    rw [q1] at hbj
    have hkk := hk1.rel.inj k k' b e e' (hk1.rel.live_lt g2) (hk1.rel.live_lt q2) g2 q2 hbi hbj
    subst hkk
    rcases g3 with ⟨a1, a2⟩ | ⟨a1, a2⟩
    · rcases q3 with ⟨b1, b2⟩ | ⟨b1, b2⟩
      · omega
      · have := hf.ge k (List.mem_of_getElem? b2); omega
    · rcases q3 with ⟨b1, b2⟩ | ⟨b1, b2⟩
      · have := hf.ge k (List.mem_of_getElem? a2); omega
      · obtain ⟨p1, p2⟩ := List.getElem?_eq_some_iff.1 a2
        obtain ⟨r1, r2⟩ := List.getElem?_eq_some_iff.1 b2
        have := (List.getElem_inj (i := i - S.n) (j := j - S.n) (h₀ := p1) (h₁ := r1) hf.nd).1 (by rw [p2, r2])
        omega

theorem TCall.forget {E : Env} {f : FuncId} {args : List TV} {S : TS} {R R' : TV → TS → Prop} (h : TCall E f args S R)
    (hr : ∀ t S1, wfS S → R t S1 → ∃ L t' S2, Fgt S S1 L S2 ∧ Ren S.n L t t' ∧ R' t' S2) : TCall E f args S R' := by
  refine ⟨h.1, fun w0 c w vs hk hv => (h.2 w0 c w vs hk hv).mono ?_⟩
  rintro e w' ⟨v, he, t, c1, S1, h1, h2, h3, h4⟩
  obtain ⟨L, t', S2, hf, hrn, hR⟩ := hr t S1 hk.rel.wf h4
  obtain ⟨g1, g2⟩ := hk.forget h1 h2 hf
  exact ⟨v, he, t', _, S2, g1, g2, hrn.ok (newCx_ok _ _ _) h3, hR⟩

theorem Fgt.none {S S1 : TS} (hw : wfS S) (h : Keep S S1) : Fgt S S1 [] S :=
  ⟨by simp, List.nodup_nil, fun k hk => (by cases hk), fun id hi => .inl ⟨rfl, h.2 id hi⟩, fun i k h => (by simp at h), hw⟩
theorem Fgt.row {S S1 : TS} (hw : wfS S) (h : Keep S S1) {k : Nat} (hk : S.n ≤ k) (ho : S1.objs k = .lin) : Fgt S S1 [k] (S.push .lin) := by
  refine ⟨by simp [TS.push], (by simp), fun k' hk' => ?_, fun id hi => .inl ⟨?_, h.2 id hi⟩, fun i k' hh => ?_, fun id hi => ?_⟩
  · simp at hk'; omega
  · simp only [TS.push]; rw [if_neg (by omega)]
  · cases i with
    | zero => simp at hh; subst hh; rw [ho, Nat.add_zero, push_self]; exact .lin
    | succ i => simp at hh
  · simp only [TS.push] at hi ⊢
    rw [if_neg (by omega)]
    exact hw id (by omega)
theorem TCall.pure {E : Env} {f : FuncId} {args : List TV} {S : TS} {r : TV} (h : TCall E f args S fun t S' => t = r ∧ Keep S S') (hr : Ren S.n [] r r) : TCall E f args S fun t S' => t = r ∧ S' = S :=
  h.forget fun t S1 hw ⟨h1, h2⟩ => ⟨[], r, S, .none hw h2, by rw [h1]; exact hr, rfl, rfl⟩
theorem RdD.nil_any {A : Nat → Nat → Prop} {w : World} {s : Nat} (s' : Nat) {v : Value} (h : RdD A w (.sl s []) (.val v)) : RdD A w (.sl s' []) (.val v) := by
  cases h with
  | nil _ a cap => exact .nil _ a cap
  | sl _ _ b o n cap hn hc hm hh => cases hn; exact .nil _ _ _
/-- What is full may be taken for a row of its own; what is empty, for one of any element. -/
theorem TWp.asRow (i : Nat) {s : Nat} (s' : Nat) {xs : List D} {E : Env} {N : Nat} {code : Code} {Q : Exit → (Nat → TV) → TS → Prop} {T : Nat → TV} {S : TS} (h : T i = .sl .full s xs) (hs : xs = [] ∨ s' = s) (hw : TWp E N code Q (upd T i (.sl (.own S.n) s' xs)) (S.push .lin)) : TWp E N code Q T S := by
  intro hi w0 c w a hk ht hsz
  obtain ⟨c', h1, h2, h3⟩ := hk.rel.virtual
  have hk' : Ok E w0 c' (S.push .lin) w := hk.step h1 h2
  have h9 : S.n < c'.n := by rw [h1.cn, TS.push_n]; omega
  refine wp_mono (hw hi w0 c' w a hk' (fun j v hv => ?_) hsz) fun e a' w' hq => hq.trans h2
  have hj := (ht j v hv).step h2
  unfold upd
  split
  · rename_i hji
    subst hji
    rw [h] at hj
    cases hj with
    | sl _ _ _ _ k1 k2 =>
      refine .sl _ _ _ _ ?_ ?_
      · rcases hs with rfl | rfl
        · exact k1.nil_any s'
        · exact k1
      · cases v with
        | slice a n cap => exact ⟨h9, .inl k2⟩
        | _ => exact k2.elim
  · exact hj
theorem ren_dW (n : Nat) (L : List Nat) (ws : List (BitVec 32)) : Ren n L (.agg (dW ws)) (.agg (dW ws)) := by
  refine .agg _ _ rfl fun j t t' h1 h2 => ?_
  rw [h1] at h2; injection h2 with h2; subst h2
  unfold dW at h1
  rw [List.getElem?_map] at h1
  obtain ⟨x, _, rfl⟩ := Option.map_eq_some_iff.1 h1
  exact .lit _
inductive RenL (n : Nat) (L : List Nat) : List TV → List TV → Prop
  | nil : RenL n L [] []
  | cons {x y : TV} {a b : List TV} (h : Ren n L x y) (h2 : RenL n L a b) : RenL n L (x :: a) (y :: b)
theorem RenL.ok {n : Nat} {L : List Nat} {a b : List TV} (h : RenL n L a b) : b.length = a.length ∧ ∀ (j : Nat) t t', a[j]? = some t → b[j]? = some t' → Ren n L t t' := by
  induction h with
  | nil => exact ⟨rfl, fun j t t' h => by simp at h⟩
  | cons h1 _ ih =>
    refine ⟨by simp [ih.1], fun j t t' k1 k2 => ?_⟩
    cases j with
    | zero => simp at k1 k2; subst k1 k2; exact h1
    | succ j => exact ih.2 j t t' (by simpa using k1) (by simpa using k2)
theorem Ren.tupF {n : Nat} {L : List Nat} {a b : List TV} (h : RenL n L a b) : Ren n L (.tup a) (.tup b) := .tup _ _ h.ok.1 h.ok.2
theorem Ren.aggF {n : Nat} {L : List Nat} {a b : List TV} (h : RenL n L a b) : Ren n L (.agg a) (.agg b) := .agg _ _ h.ok.1 h.ok.2
theorem TCall.row {E : Env} {f : FuncId} {args : List TV} {S : TS} {s : Nat} {xs : List D} (h : TCall E f args S fun t S' => ∃ k, t = .sl (.own k) s xs ∧ S.n ≤ k ∧ S'.objs k = .lin ∧ Keep S S') : TCall E f args S fun t S' => t = .sl (.own S.n) s xs ∧ S' = S.push .lin :=
  h.forget fun t S1 hw ⟨k, h1, h2, h3, h4⟩ => ⟨[k], _, _, .row hw h4 h2 h3, by rw [h1]; exact .sl 0 k s xs rfl, rfl, rfl⟩
end Go.Proofs.YteafcknljhglkaaDoor.TL
