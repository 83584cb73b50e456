/-
  Lemmas of the claim, part 5: Qt Qu Qv Sa Sb.
-/
import Derived.Test.YtoldjfappfbfbaaGreatDoorMcd
set_option linter.unusedVariables false
set_option linter.unusedSimpArgs false
namespace Go.Proofs.YtoldjfappfbfbaaGreatDoor
open Go.RowKit TL
structure BackN (S0 S : TS) (bk : Nat) (bf : Bs → Option Nat) (B : Bs → Bs → Bool) : Prop where
  ok : BackOk S bk bf B
  lo : S0.n ≤ bk
  hi : bk < S.n
  ids : ∀ q id, bf q = some id → S0.n ≤ id ∧ id ≠ bk
theorem BackN.linkOld {S0 S : TS} {bk : Nat} {bf : Bs → Option Nat} {B : Bs → Bs → Bool} (h : BackN S0 S bk bf B) {q p : Bs} {id : Nat} (hq : bf q = some id) {es : Ents} {clock : Nat} {ks : List Bs} (mo : MapOk kS es clock ks) (hg : ∀ p, getM kS es p = if B q p = true then some (.lit (.bool true)) else none) :
    BackN S0 (S.set id (.map (putE (kS.v p) (.lit (.bool true)) es clock) (clkE (kS.v p) es clock))) bk bf (addB B q p) := by
  refine ⟨⟨?_, fun q' id' hq' => ⟨?_, (h.ok.yes q' id' hq').2⟩, fun q' hq' p' => ?_, h.ok.inj⟩, h.lo, h.hi, h.ids⟩
  · obtain ⟨es', c, ks', a, b, d⟩ := h.ok.om
    exact ⟨es', c, ks', (st_old _ (Ne.symm (h.ids q id hq).2)).trans a, b, d⟩
  · by_cases e : q' = q
    · subst e
      rw [hq] at hq'
      cases hq'
      exact SetOk.putT mo hg (TS.set_same' _ _ _) fun p' => by simp [addB]
    · have hne : id' ≠ id := fun e2 => e (h.ok.inj _ _ id (by rw [hq', e2]) hq)
      have := (h.ok.yes q' id' hq').1.fr (S' := S.set id (.map (putE (kS.v p) (.lit (.bool true)) es clock) (clkE (kS.v p) es clock))) (st_old _ hne)
      have hf : addB B q p q' = B q' := by funext p'; simp [addB, e]
      rw [hf]; exact this
  · have hne : q' ≠ q := fun e => by rw [e, hq] at hq'; cases hq'
    simp [addB, hne, h.ok.no q' hq' p']
theorem BackN.linkNew {S0 S : TS} {bk : Nat} {bf : Bs → Option Nat} {B : Bs → Bs → Bool} (h : BackN S0 S bk bf B) {q p : Bs} (hq : bf q = none) {es : Ents} {clock : Nat} {ks : List Bs} (om : S.objs bk = .map es clock) (mo : MapOk kS es clock ks) (hg : ∀ q, getM kS es q = (bf q).map TV.mp) :
    BackN S0 ((S.set bk (.map (putE (kS.v q) (.mp S.n) es clock) (clkE (kS.v q) es clock))).push (.map (putE (kS.v p) (.lit (.bool true)) [] 0) (clkE (kS.v p) [] 0))) bk (fun x => if x = q then some S.n else bf x) (addB B q p) := by
  have l2 := h.hi
  have l0 := h.lo
  have hold : ∀ id, id < S.n → id ≠ bk → ((S.set bk (.map (putE (kS.v q) (.mp S.n) es clock) (clkE (kS.v q) es clock))).push (.map (putE (kS.v p) (.lit (.bool true)) [] 0) (clkE (kS.v p) [] 0))).objs id = S.objs id := fun id hi hn =>
    psh_old0 (S := S.set _ _) (st_old _ hn) hi
  refine ⟨⟨⟨_, _, _, psh_old0 (S := S.set _ _) (TS.set_same' _ _ _) l2, mo.put q _, fun q' => ?_⟩, fun q' id' hq' => ?_, fun q' hq' p' => ?_, fun q1 q2 id' h1 h2 => ?_⟩, l0, Nat.lt_succ_of_lt l2, fun q' id' hq' => ?_⟩
  · rw [mo.get_put, hg]
    by_cases e : q' = q
    · rw [if_pos e, if_pos e]; rfl
    · rw [if_neg e, if_neg e]
  · by_cases e : q' = q
    · rw [if_pos e] at hq'
      cases hq'
      subst e
      refine ⟨⟨_, _, _, push_self _ _, (MapOk.nil (κ := kS)).put p _, fun p' => ?_⟩, Nat.lt_succ_self _⟩
      rw [getM_one]
      simp [addB, h.ok.no q' hq p']
    · rw [if_neg e] at hq'
      have hlt := (h.ok.yes q' id' hq').2
      refine ⟨?_, Nat.lt_succ_of_lt hlt⟩
      have hf : addB B q p q' = B q' := by funext p'; simp [addB, e]
      rw [hf]
      exact (h.ok.yes q' id' hq').1.fr (hold _ hlt (h.ids q' id' hq').2)
  · by_cases e : q' = q
    · rw [if_pos e] at hq'; cases hq'
    · rw [if_neg e] at hq'
      simp [addB, e, h.ok.no q' hq' p']
  · by_cases e1 : q1 = q
    · by_cases e2 : q2 = q
      · rw [e1, e2]
      · rw [if_pos e1] at h1
        rw [if_neg e2] at h2
        cases h1
        have := (h.ok.yes q2 _ h2).2
        omega
    · rw [if_neg e1] at h1
      by_cases e2 : q2 = q
      · rw [if_pos e2] at h2
        cases h2
        have := (h.ok.yes q1 _ h1).2
        omega
      · rw [if_neg e2] at h2
        exact h.ok.inj _ _ _ h1 h2
  · by_cases e : q' = q
    · rw [if_pos e] at hq'
      cases hq'
      exact ⟨by omega, by omega⟩
    · rw [if_neg e] at hq'
      exact h.ids q' id' hq'
section
variable {S : TS} {s : Nat} {I : StI} {L : List RowM} {jd : List D} {B : Bs → Bs → Bool} {roots : List Bs} {ver : BitVec 64} {tc : List (Bs × BitVec 64)}
end
end Go.Proofs.YtoldjfappfbfbaaGreatDoor
namespace Go.Proofs.YtoldjfappfbfbaaGreatDoor
open Go.RowKit TL
section
variable {S : TS} {s : Nat} {I : StI} {L : List RowM} {jd : List D} {B : Bs → Bs → Bool} {roots : List Bs} {ver : BitVec 64} {tc : List (Bs × BitVec 64)}
set_option maxRecDepth 8000 in
set_option maxHeartbeats 1000000 in
theorem c_there_nil {c : Nat} {g : Tag} {sz : Nat} {K : TV → TS → Prop} (hK : K (.lit (.bool true)) S) :
    TCall env 92 [.sl g sz (dT []), .ptr c 0] S K := by
  refine TCall.w 8 [.tmp 3] Tryz.func92 rfl rfl rfl rfl (by kernel_rfl) rfl ?_
  simp -implicitDefEqProofs (disch := omega) only [seval, go_sem]
  refine c_ContainsFunc_T (P := fun p => true) (fun x h K hK => by cases h) ?_ (.inr rfl) (by simp)
  have e : ([] : List Bs).any (fun p => true) = false := rfl
  rw [e]
  simp -implicitDefEqProofs (disch := omega) only [seval, go_sem]
  exact hK
end
section
variable {S : TS} {s : Nat} {I : StI} {M : StM}
end
end Go.Proofs.YtoldjfappfbfbaaGreatDoor
namespace Go.Proofs.YtoldjfappfbfbaaGreatDoor
open Go.RowKit TL
/-- A book holds these claims; what it owns. -/
def BkS (S : TS) (b : Nat) (l : Int → List Cl) (F : Nat → Prop) : Prop := ∃ m kf es clock ks, BookOk S b l m kf es clock ks ∧ F = BookFoot b m l kf
theorem BkS.flt {S : TS} {b : Nat} {l : Int → List Cl} {F : Nat → Prop} (h : BkS S b l F) : ∀ id, F id → id < S.n := by
  obtain ⟨m, kf, es, clock, ks, hb, rfl⟩ := h
  rintro id (rfl | rfl | ⟨o, ho, rfl⟩)
  · exact hb.bl
  · exact hb.ml
  · exact (hb.yes o ho).2.2.1
theorem BkS.fr {S S' : TS} {b : Nat} {l : Int → List Cl} {F : Nat → Prop} (h : BkS S b l F) (hn : S.n ≤ S'.n) (ho : ∀ id, F id → S'.objs id = S.objs id) : BkS S' b l F := by
  obtain ⟨m, kf, es, clock, ks, hb, rfl⟩ := h
  refine ⟨m, kf, es, clock, ks, ⟨(ho _ (.inl rfl)).trans hb.ob, (ho _ (.inr (.inl rfl))).trans hb.om, hb.mo, hb.bm, Nat.lt_of_lt_of_le hb.bl hn, Nat.lt_of_lt_of_le hb.ml hn, hb.no, fun o h => ?_, hb.inj⟩, rfl⟩
  obtain ⟨g1, g2, g3, g4⟩ := hb.yes o h
  exact ⟨g1, (ho _ (.inr (.inr ⟨o, h, rfl⟩))).trans g2, Nat.lt_of_lt_of_le g3 hn, g4⟩
theorem BkS.keep {S S' : TS} {b : Nat} {l : Int → List Cl} {F : Nat → Prop} (h : BkS S b l F) (hk : Keep S S') : BkS S' b l F := h.fr hk.1 fun id hi => hk.2 id (h.flt id hi)
theorem BkS.push {S : TS} {b : Nat} {l : Int → List Cl} {F : Nat → Prop} (h : BkS S b l F) (o : TObj) : BkS (S.push o) b l F := h.keep (Keep.push _ _)
theorem BookOk.drop {S : TS} {b m clock : Nat} {l : Int → List Cl} {kf : Int → Nat} {es : Ents} {ks : List Int} (h : BookOk S b l m kf es clock ks) (o : Int) :
    ∃ ks', BookOk (S.set m (.map (delE (kI.v o) es) clock)) b (fun i => if i = o then [] else l i) m kf (delE (kI.v o) es) clock ks' := by
  refine ⟨_, (st_old _ h.bm).trans h.ob, TS.set_same' _ _ _, h.mo.del o, h.bm, h.bl, h.ml, fun i hi => ?_, fun i hi => ?_, fun i j h1 h2 hk => ?_⟩
  · rw [h.mo.get_del]
    by_cases e : i = o
    · rw [if_pos e]
    · rw [if_neg e] at hi ⊢; exact h.no i hi
  · by_cases e : i = o
    · rw [if_pos e] at hi; exact absurd rfl hi
    · simp only [if_neg e] at hi ⊢
      obtain ⟨g1, g2, g3, g4, g5⟩ := h.yes i hi
      rw [h.mo.get_del, if_neg e]
      exact ⟨g1, (st_old _ g5).trans g2, g3, g4, g5⟩
  · have e1 : i ≠ o := fun e => by rw [if_pos e] at h1; exact h1 rfl
    have e2 : j ≠ o := fun e => by rw [if_pos e] at h2; exact h2 rfl
    rw [if_neg e1] at h1
    rw [if_neg e2] at h2
    exact h.inj i j h1 h2 hk
theorem stF_lit (s : Nat) (I : StI) (h : ∀ q, I.bf q = none) (id : Nat) : stF s I id ↔ id ∈ [s, I.tab, I.rm, I.k, I.bk, I.rt, I.sm] := ⟨fun hh => hh.resolve_right fun ⟨q, hq⟩ => (by rw [h q] at hq; cases hq), .inl⟩
/-- A new store. -/
theorem c_Store_new {S : TS} {K : TV → TS → Prop} (hK : ∀ S' s I, StOk S' s I .new → (∀ id, stF s I id → S.n ≤ id) → Keep S S' → K (.ptr s 0) S') : TCall env 16 [] S K := by
  refine TCall.gh ?_
  refine c_db_New ?_
  generalize hS5 : ((((((S.push (.map [] 0)).push (.cells 168 [.mp S.n, .sl .full 0 []])).push (.map [] 0)).push (.map [] 0)).push (.map [] 0)).push (.cells 114 [.ptr (S.n + 1) 0, .mp (S.n + 2), .mp (S.n + 3), .mp (S.n + 4), .lit (w64 0#64)])) = S5
  have hn5 : S5.n = S.n + 6 := by rw [← hS5]; rfl
  have o0 : S5.objs S.n = .map [] 0 := by rw [← hS5]; exact psh_old0 (psh_old0 (psh_old0 (psh_old0 (psh_old0 (push_self _ _) (by simp only [TS.push_n]; omega)) (by simp only [TS.push_n]; omega)) (by simp only [TS.push_n]; omega)) (by simp only [TS.push_n]; omega)) (by simp only [TS.push_n]; omega)
  have o1 : S5.objs (S.n + 1) = .cells 168 [.mp S.n, .sl .full 0 []] := by rw [← hS5]; exact psh_old0 (psh_old0 (psh_old0 (psh_old0 (push_self (S.push _) _) (by simp only [TS.push_n]; omega)) (by simp only [TS.push_n]; omega)) (by simp only [TS.push_n]; omega)) (by simp only [TS.push_n]; omega)
  have o2 : S5.objs (S.n + 2) = .map [] 0 := by rw [← hS5]; exact psh_old0 (psh_old0 (psh_old0 (push_self ((S.push _).push _) _) (by simp only [TS.push_n]; omega)) (by simp only [TS.push_n]; omega)) (by simp only [TS.push_n]; omega)
  have o3 : S5.objs (S.n + 3) = .map [] 0 := by rw [← hS5]; exact psh_old0 (psh_old0 (push_self (((S.push _).push _).push _) _) (by simp only [TS.push_n]; omega)) (by simp only [TS.push_n]; omega)
  have o4 : S5.objs (S.n + 4) = .map [] 0 := by rw [← hS5]; exact psh_old0 (push_self ((((S.push _).push _).push _).push _) _) (by simp only [TS.push_n]; omega)
  have o5 : S5.objs (S.n + 5) = .cells 114 [.ptr (S.n + 1) 0, .mp (S.n + 2), .mp (S.n + 3), .mp (S.n + 4), .lit (w64 0#64)] := by rw [← hS5]; exact push_self (((((S.push _).push _).push _).push _).push _) _
  have hk5 : Keep S S5 := by rw [← hS5]; exact (((((Keep.push _ _).push' _).push' _).push' _).push' _).push' _
  have hgh := Gh.bufCell 173 6 1 o1 rfl
  refine ⟨_, hgh, ?_⟩
  have hold : ∀ id o, id ≠ S.n + 1 → id < S5.n → S5.objs id = o → ((S5.push (.cells 173 [])).set (S.n + 1) (.cells 168 ([TV.mp S.n, .sl .full 0 []].set 1 (.vs S5.n 0 6 0)))).objs id = o := fun id o h1 h2 h3 => (st_old _ h1).trans (psh_old0 h3 h2)
  have p0 := hold S.n _ (by omega) (by omega) o0
  have p2 := hold (S.n + 2) _ (by omega) (by omega) o2
  have p3 := hold (S.n + 3) _ (by omega) (by omega) o3
  have p4 := hold (S.n + 4) _ (by omega) (by omega) o4
  have p5 := hold (S.n + 5) _ (by omega) (by omega) o5
  refine hK _ (S.n + 5) ⟨S.n + 1, S.n, S5.n, S.n + 2, S.n + 3, S.n + 4, fun _ => none⟩ ⟨p5, ⟨TS.set_same' _ _ _, (st_old _ (by show S5.n ≠ _; omega)).trans (push_self _ _), rfl, ⟨[], 0, [], p0, MapOk.nil, fun p => rfl, List.Perm.refl _⟩, ⟨by show S.n + 1 < S5.n + 1; omega, by show S.n < S5.n + 1; omega, Nat.lt_succ_self _⟩, ⟨by show S.n + 1 ≠ S.n; omega, by show S.n + 1 ≠ S5.n; omega, by show S.n ≠ S5.n; omega⟩⟩,
    ⟨⟨[], 0, [], p2, MapOk.nil, fun q => rfl⟩, (fun q id h => by cases h), (fun q _ p => rfl), (fun q q' id h => by cases h)⟩, ⟨[], 0, [], p3, MapOk.nil, fun p => rfl⟩, ⟨[], 0, [], p4, MapOk.nil, fun p => rfl⟩,
    ⟨by show S.n + 5 < S5.n + 1; omega, by show S.n + 2 < S5.n + 1; omega, by show S.n + 3 < S5.n + 1; omega, by show S.n + 4 < S5.n + 1; omega⟩, nodup7.2 ?_, (fun q id h => by cases h)⟩ ?_ ?_
  · show StNe (S.n + 5) (S.n + 1) S.n S5.n (S.n + 2) (S.n + 3) (S.n + 4)
    exact ⟨by omega, by omega, by omega, by omega, by omega, by omega, by omega, by omega, by omega, by omega, by omega, by omega, by omega, by omega, by omega, by omega, by omega, by omega, by omega, by omega, by omega⟩
  · intro id hid
    rw [stF_lit _ _ (fun _ => rfl)] at hid
    simp only [List.mem_cons, List.not_mem_nil, or_false] at hid
    omega
  · exact (hk5.push' _).set (by omega) _
end Go.Proofs.YtoldjfappfbfbaaGreatDoor
namespace Go.Proofs.YtoldjfappfbfbaaGreatDoor
open Go.RowKit TL
def rowOne (ar : Bs) : RowM := ⟨mkP nN ar [], nN, ar, []⟩
theorem rowOne_fits (ar : Bs) : fitsR (rowOne ar) = true := by
  unfold fitsR rowOne
  rw [right_n, refs_nil]
  exact decide_eq_true rfl
theorem rowOne_B (ar : Bs) (h : ar.length ≤ 1000000) : RowB (rowOne ar) := ⟨by show (1:Nat) ≤ _; decide, h, by simp [rowOne], (fun s h => by cases h), by show (mkP nN ar []).length ≤ 100000; rw [mkP_len]; decide⟩
theorem put_one (ar : Bs) : putM .new [rowOne ar] = (touchM { StM.new with L := [rowOne ar], ver := 1#64 } [mkP nN ar []], 0) := by
  have h1 : putF [] [rowOne ar] [] = (0, [rowOne ar]) := by
    unfold putF
    rw [rowOne_fits, if_neg (by simp), if_neg (by simp [hasP, rowAt]), if_neg (by simp [rowOne]), if_neg (by simp)]
    rfl
  have h2 : putF StM.new.L [rowOne ar] [] = (0, [rowOne ar]) := h1
  unfold putM
  rw [h2]
  rfl
end Go.Proofs.YtoldjfappfbfbaaGreatDoor
namespace Go.Proofs.YtoldjfappfbfbaaGreatDoor
open Go.RowKit TL
section
variable {S : TS}
set_option maxRecDepth 8000 in
set_option maxHeartbeats 1000000 in
theorem c_reach_nil {l : List Bs} {g : Tag} {sz : Nat} {K : TV → TS → Prop} (hz : sz = 1 ∨ l = []) (hl : l.length ≤ 1000000)
    (hK : ∀ S' m, SetOk S' m (fun p => decide (p ∈ ([] : List Bs))) → S.n ≤ m → m < S'.n → Keep S S' → K (.mp m) S') : TCall env 87 [.lit (.pointer none), .sl g sz (dT l)] S K := by
  refine TCall.w 47 [.tmp 4] Tryz.func87 rfl rfl rfl rfl (by kernel_rfl) rfl ?_
  simp -implicitDefEqProofs (disch := omega) only [seval, go_sem]
  refine c_Clone_TV ?_ hz hl
  simp -implicitDefEqProofs (disch := omega) only [seval, go_sem]
  refine loW_inv (fun n T S1 => ∃ (todo : List Bs) (kt : Nat), n = todo.length ∧ n ≤ 1000000 ∧ T 0 = .lit (.pointer none) ∧ T 5 = .mp S.n ∧ T 6 = .vs kt 0 1 todo.length ∧ S1.objs kt = .cells 9 (cellsD (dT todo)) ∧ S.n < kt ∧ kt < S1.n ∧
    S1.objs S.n = .map [] 0 ∧ Keep S S1) l.length ?_ ?_
  · exact ⟨l, S.n + 1, rfl, hl, rfl, rfl, rfl, push_self (S.push _) _, Nat.lt_succ_self _, Nat.lt_succ_self _, psh_old0 (push_self _ _) (Nat.lt_succ_self _), (Keep.push _ _).push' _⟩
  rintro n T S1 ⟨todo, kt, hn, hnN, q0, q5, q6, hkt, hk1, hk2, om, hkp⟩
  have hns := hkp.1
  simp -implicitDefEqProofs (disch := omega) only [seval, go_sem, q0, q5, q6]
  refine cdK_d (fun hc => ?_) (fun hc => ?_)
  · obtain ⟨todo, p, rfl⟩ : ∃ t p, todo = t ++ [p] := by
      rcases List.eq_nil_or_concat todo with e | ⟨t, p, e⟩
      · rw [e] at hc; simp at hc
      · exact ⟨t, p, by simpa using e⟩
    have hlen : (todo ++ [p]).length = todo.length + 1 := by simp
    have hcl : (cellsD (dT (todo ++ [p]))).length = todo.length + 1 := by rw [cT_len]; simp
    have hget : (cellsD (dT (todo ++ [p]))).getD todo.length .unk = .lit (.string (st p)) := by
      rw [cT_get (by simp)]; simp
    have hsl : tvSlice 1 (.vs kt 0 1 (todo.length + 1)) none (some (todo.length : Int)) none = some (.vs kt 0 1 todo.length) := by
      simp [tvSlice]
      omega
    simp -implicitDefEqProofs (disch := omega) only [seval, go_sem, q0, q5, q6, hkt, hlen, hcl, hget, hsl]
    refine TCall.gh0 (Gh.trunc hkt todo.length) ?_
    have hctk : (cellsD (dT (todo ++ [p]))).take todo.length = cellsD (dT todo) := by rw [cT_take]; simp
    rw [hctk]
    have hkt2 := TS.set_same' S1 kt (.cells 9 (cellsD (dT todo)))
    have om2 : (S1.set kt (.cells 9 (cellsD (dT todo)))).objs S.n = .map [] 0 := (st_old _ (by omega)).trans om
    have hkp2 : Keep S (S1.set kt (.cells 9 (cellsD (dT todo)))) := hkp.set (by omega) _
    have hn2 : (S1.set kt (.cells 9 (cellsD (dT todo)))).n = S1.n := rfl
    generalize S1.set kt (.cells 9 (cellsD (dT todo))) = S2 at *
    rw [hlen] at hn
    refine c_row_nil ?_
    simp -implicitDefEqProofs (disch := omega) only [seval, go_sem, q0, q5, noRow_mk]
    exact ⟨n - 1, by omega, todo, kt, by omega, by omega, q0, q5, rfl, psh_old0 hkt2 (by omega), hk1, by rw [TS.push_n]; omega, psh_old0 om2 (by omega), hkp2.push' _⟩
  · have e : todo = [] := List.eq_nil_of_length_eq_zero (by omega)
    subst e
    simp -implicitDefEqProofs (disch := omega) only [seval, go_sem, q0, q5, q6]
    exact hK S1 S.n ⟨[], 0, [], om, MapOk.nil, fun p => by simp [getM_nil]⟩ (Nat.le_refl _) (by omega) hkp
theorem ris_nil : Ris ([] : List Bs) := List.Pairwise.nil
set_option maxRecDepth 8000 in
set_option maxHeartbeats 1000000 in
theorem c_Closure_nil {p : Bs} {K : TV → TS → Prop} (hK : K (.sl .none 1 (dT [])) S) : TCall env 41 [.lit (.pointer none), .lit (.string (st p))] S K := by
  refine TCall.toPure (r := .sl .none 1 (dT [])) ?_ hK
  refine TCall.w 10 [.tmp 4] Tryz.func41 rfl rfl rfl rfl (by kernel_rfl) rfl ?_
  simp -implicitDefEqProofs (disch := omega) only [seval, go_sem]
  rw [dT_one]
  refine c_reach_nil (.inl rfl) (by simp) fun S1 m hm hm1 hm2 hk => ?_
  simp -implicitDefEqProofs (disch := omega) only [seval, go_sem]
  refine c_sorted (l := []) hm hm2 ris_nil (fun q => by simp) (by simp) (fun q hq => by cases hq) ?_
  simp -implicitDefEqProofs (disch := omega) only [seval, go_sem]
  exact ⟨.slN _ _ _, hk⟩
set_option maxRecDepth 8000 in
set_option maxHeartbeats 1000000 in
theorem c_Live_nil {K : TV → TS → Prop} (hK : K (.sl .none 1 (dT [])) S) : TCall env 50 [.lit (.pointer none)] S K := by
  refine TCall.toPure (r := .sl .none 1 (dT [])) ?_ hK
  refine TCall.w 8 [.tmp 2] Tryz.func50 rfl rfl rfl rfl (by kernel_rfl) rfl ?_
  simp -implicitDefEqProofs (disch := omega) only [seval, go_sem]
  refine c_Roots_nil ?_
  simp -implicitDefEqProofs (disch := omega) only [seval, go_sem]
  refine c_reach_nil (l := []) (.inl rfl) (by simp) fun S1 m hm hm1 hm2 hk => ?_
  simp -implicitDefEqProofs (disch := omega) only [seval, go_sem]
  refine c_sorted (l := []) hm hm2 ris_nil (fun q => by simp) (by simp) (fun q hq => by cases hq) ?_
  simp -implicitDefEqProofs (disch := omega) only [seval, go_sem]
  exact ⟨.slN _ _ _, hk⟩
set_option maxRecDepth 8000 in
set_option maxHeartbeats 1000000 in
theorem c_Sweep_nil {K : TV → TS → Prop} (hK : K (.sl .none 1 (dT [])) S) : TCall env 40 [.lit (.pointer none)] S K := by
  refine TCall.toPureD (r := .sl .none 1 (dT [])) ?_ hK
  refine TCall.w 57 [.tmp 2] Tryz.func40 rfl rfl rfl rfl (by kernel_rfl) rfl ?_
  simp -implicitDefEqProofs (disch := omega) only [seval, go_sem]
  refine c_Roots_nil ?_
  simp -implicitDefEqProofs (disch := omega) only [seval, go_sem]
  refine c_reach_nil (l := []) (.inl rfl) (by simp) fun S1 m hm hm1 hm2 hk => ?_
  simp -implicitDefEqProofs (disch := omega) only [seval, go_sem]
  refine c_Paths_nil ?_
  simp -implicitDefEqProofs (disch := omega) only [seval, go_sem]
  refine loW_inv (fun n T S2 => T 0 = .lit (.pointer none) ∧ T 15 = .lit (.int .i64 0) ∧ T 16 = .lit (.int .i64 0) ∧ T 4 = .sl .full 0 [] ∧ S1 = S2) 0 ?_ ?_
  · exact ⟨rfl, rfl, rfl, rfl, rfl⟩
  rintro n T S2 ⟨q0, q15, q16, q4, rfl⟩
  simp -implicitDefEqProofs (disch := omega) only [seval, go_sem, q0, q15, q16, q4]
  refine loW_inv (fun n T S2 => T 0 = .lit (.pointer none) ∧ T 40 = .lit (.int .i64 0) ∧ T 41 = .lit (.int .i64 0) ∧ T 4 = .sl .full 0 [] ∧ S1 = S2) 0 ?_ ?_
  · exact ⟨q0, rfl, rfl, q4, rfl⟩
  rintro n T S2 ⟨q0, q40, q41, q4, rfl⟩
  simp -implicitDefEqProofs (disch := omega) only [seval, go_sem, q0, q40, q41, q4]
  exact ⟨.sl .none 1 (dT []), .sl0 _ _ _, .slN _ _ _, hk⟩
set_option maxRecDepth 8000 in
set_option maxHeartbeats 1000000 in
theorem c_backward_nil {K : TV → TS → Prop} (hK : ∀ S' bk, S'.objs bk = .map [] 0 → S.n ≤ bk → bk < S'.n → Keep S S' → K (.mp bk) S') : TCall env 95 [.lit (.pointer none)] S K := by
  refine TCall.w 38 [.tmp 2] Tryz.func95 rfl rfl rfl rfl (by kernel_rfl) rfl ?_
  simp -implicitDefEqProofs (disch := omega) only [seval, go_sem]
  refine c_Paths_nil ?_
  simp -implicitDefEqProofs (disch := omega) only [seval, go_sem]
  refine loW_inv (fun n T S2 => T 3 = .mp S.n ∧ T 11 = .lit (.int .i64 0) ∧ T 12 = .lit (.int .i64 0) ∧ S.push (.map [] 0) = S2) 0 ?_ ?_
  · exact ⟨rfl, rfl, rfl, rfl⟩
  rintro n T S2 ⟨q3, q11, q12, rfl⟩
  simp -implicitDefEqProofs (disch := omega) only [seval, go_sem, q3, q11, q12]
  exact hK _ _ (push_self _ _) (Nat.le_refl _) (Nat.lt_succ_self _) (Keep.push _ _)
set_option maxRecDepth 8000 in
set_option maxHeartbeats 1000000 in
theorem c_Check_nil {K : TV → TS → Prop} (hK : K (.lit (.bool true)) S) : TCall env 45 [.lit (.pointer none)] S K := by
  refine TCall.toPure (r := .lit (.bool true)) ?_ hK
  refine TCall.w 57 [.tmp 2] Tryz.func45 rfl rfl rfl rfl (by kernel_rfl) rfl ?_
  simp -implicitDefEqProofs (disch := omega) only [seval, go_sem]
  generalize hS0 : S.push _ = S0
  have hbx : S0.objs S.n = .cells 37 [.lit (.pointer none)] := by rw [← hS0]; exact push_self _ _
  have hk0 : Keep S S0 := by rw [← hS0]; exact Keep.push _ _
  have hn0 : S0.n = S.n + 1 := by rw [← hS0]; rfl
  refine c_backward_nil fun S1 bk hB hb1 hb2 hk1 => ?_
  have hbx1 : S1.objs S.n = .cells 37 [.lit (.pointer none)] := (hk1.2 _ (by omega)).trans hbx
  simp -implicitDefEqProofs (disch := omega) only [seval, go_sem, hbx1]
  refine c_Paths_nil ?_
  simp -implicitDefEqProofs (disch := omega) only [seval, go_sem]
  refine loW_inv (fun n T S2 => T 1 = .ptr S.n 0 ∧ T 3 = .fn (.func 92) [] [.ptr S.n 0] ∧ T 14 = .lit (.int .i64 0) ∧ T 15 = .lit (.int .i64 0) ∧ S1 = S2) 0 ?_ ?_
  · exact ⟨rfl, rfl, rfl, rfl, rfl⟩
  rintro n T S2 ⟨q1, q3, q14, q15, rfl⟩
  simp -implicitDefEqProofs (disch := omega) only [seval, go_sem, q1, q3, q14, q15, hbx1]
  refine c_Roots_nil ?_
  simp -implicitDefEqProofs (disch := omega) only [seval, go_sem, q1, q3, q14, q15, hbx1]
  refine c_there_nil ?_
  simp -implicitDefEqProofs (disch := omega) only [seval, go_sem]
  exact ⟨.lit _, hk0.trans hk1⟩
set_option maxRecDepth 8000 in
set_option maxHeartbeats 1000000 in
theorem c_Same_nil {b : Nat} {I : StI} {K : TV → TS → Prop} (h : StOk S b I .new) (hK : K (.lit (.bool true)) S) : TCall env 44 [.lit (.pointer none), .ptr b 0] S K := by
  refine TCall.toPure (r := .lit (.bool true)) ?_ hK
  have hdn : decide (([] : List Bs) = []) = true := rfl
  refine TCall.w 51 [.tmp 4] Tryz.func44 rfl rfl rfl rfl (by kernel_rfl) rfl ?_
  simp -implicitDefEqProofs (disch := omega) only [seval, go_sem]
  refine c_Paths_nil ?_
  simp -implicitDefEqProofs (disch := omega) only [seval, go_sem]
  refine loW_inv (fun n T S1 => T 0 = .lit (.pointer none) ∧ T 1 = .ptr b 0 ∧ T 13 = .lit (.int .i64 0) ∧ T 14 = .lit (.int .i64 0) ∧ S = S1) 0 ?_ ?_
  · exact ⟨rfl, rfl, rfl, rfl, rfl⟩
  rintro n T S1 ⟨q0, q1, q13, q14, rfl⟩
  simp -implicitDefEqProofs (disch := omega) only [seval, go_sem, q0, q1, q13, q14]
  refine c_Paths_nil ?_
  simp -implicitDefEqProofs (disch := omega) only [seval, go_sem, q0, q1, q13, q14]
  refine c_Paths h (by simp [StM.new]) (fun p hp => by simp [StM.new, pathsOf] at hp) ?_
  simp -implicitDefEqProofs (disch := omega) only [seval, go_sem, q0, q1, q13, q14]
  refine c_Equal_T (a := []) (b := []) ?_ (.inl rfl) (.inl rfl) (by simp)
  rw [hdn]
  simp -implicitDefEqProofs (disch := omega) only [seval, go_sem, q0, q1, q13, q14]
  refine c_Roots_nil ?_
  simp -implicitDefEqProofs (disch := omega) only [seval, go_sem, q0, q1, q13, q14]
  refine c_Roots h ris_nil (by simp [StM.new]) (fun p hp => by simp [StM.new] at hp) ?_
  simp -implicitDefEqProofs (disch := omega) only [seval, go_sem, q0, q1, q13, q14]
  refine c_Equal_T (a := []) (b := []) ?_ (.inl rfl) (.inl rfl) (by simp)
  rw [hdn]
  simp -implicitDefEqProofs (disch := omega) only [seval, go_sem, q0, q1, q13, q14]
  exact ⟨.lit _, Keep.refl _⟩
end
def xP : Bs := [UInt8.toBitVec 120]
theorem del_new : deleteM .new xP = (.new, 5) := by unfold deleteM; exact if_pos rfl
def oneM : StM := touchM { StM.new with L := [rowOne [1#8]], ver := 1#64 } [mkP nN [1#8] []]
theorem oneM_has : hasP oneM.L (mkP nN [1#8] []) = true := by simp [oneM, touchM, hasP, rowAt, rowOne]
section
variable {S : TS}
set_option maxRecDepth 8000 in
set_option maxHeartbeats 1000000 in
theorem c_fresh10 {K : TV → TS → Prop} (hK : K (.lit (.bool true)) S) : TCall env 36 [] S K := by
  refine TCall.toPure (r := .lit (.bool true)) ?_ hK
  refine TCall.w 41 [.tmp 0] Tryz.func36 rfl rfl rfl rfl (by kernel_rfl) rfl ?_
  simp -implicitDefEqProofs (disch := omega) only [seval, go_sem]
  refine c_Store_new fun S1 s I h1 hf1 hk1 => ?_
  simp -implicitDefEqProofs (disch := omega) only [seval, go_sem]
  refine c_Version h1 ?_
  rw [show StM.new.ver = 0#64 from rfl]
  simp -implicitDefEqProofs (disch := omega) only [seval, go_sem]
  refine c_Delete (p := xP) h1 .nil (fun r hr => by cases hr) fun S2 I2 h2 t2 => ?_
  rw [del_new] at h2 ⊢
  simp -implicitDefEqProofs (disch := omega) only [seval, go_sem]
  refine c_r10_New ?_
  simp -implicitDefEqProofs (disch := omega) only [seval, go_sem, refV_mk]
  refine .argL (.same (.same (.same (.empty .nil)))) (c_ref07_Make0 (nm := nN) (ar := [1#8]) (ga := .full) ?_ right_n (by simp))
  simp -implicitDefEqProofs (disch := omega) only [seval, go_sem]
  refine .conv (b := [.ptr s 0, .sl .none 4 (dR [rowOne [1#8]])]) (.cons (.refl _) (.cons (.sl _ (.cons (De.aggF (.cons (.refl _) (.cons (.refl _) (.cons (.refl _) (.cons (.sl0 _ _) .nil))))) .nil)) .nil)) ?_
  refine c_Put h2 .nil (fun r hr => by rw [List.mem_singleton] at hr; subst hr; exact rowOne_B _ (by simp)) (.inl rfl) (by simp) (fun S4 I4 g4 t4 => ?_)
  rw [put_one] at g4 ⊢
  have g5 : StOk S4 s I4 (touchM { StM.new with L := [rowOne [1#8]], ver := 1#64 } [mkP nN [1#8] []]) := g4
  simp -implicitDefEqProofs (disch := omega) only [seval, go_sem]
  refine c_Has g5 ?_
  rw [show hasP (touchM { StM.new with L := [rowOne [1#8]], ver := 1#64 } [mkP nN [1#8] []]).L (mkP nN [1#8] []) = true from oneM_has]
  simp -implicitDefEqProofs (disch := omega) only [seval, go_sem]
  refine c_Version g5 ?_
  rw [show (touchM { StM.new with L := [rowOne [1#8]], ver := 1#64 } [mkP nN [1#8] []]).ver = 1#64 from rfl]
  simp -implicitDefEqProofs (disch := omega) only [seval, go_sem]
  refine ⟨.lit _, ⟨?_, fun id hid => ?_⟩⟩
  · have := hk1.1; have := t2.fr.n; have := t4.fr.n; omega
  · have a1 := hk1.1; have a2 := t2.fr.n
    have b1 : ¬ stF s I id := fun h => by have := hf1 id h; omega
    have b2 : ¬ stF s I2 id := fun h => (t2.sub id h).elim b1 (fun h => by omega)
    rw [t4.fr.o id (by omega) b2, t2.fr.o id (by omega) b1, hk1.2 id hid]
set_option maxRecDepth 8000 in
set_option maxHeartbeats 1000000 in
theorem c_DbNil {p : Bs} {K : TV → TS → Prop} (hK : K (.lit (.bool true)) S) : TCall env 12 [.lit (.string (st p))] S K := by
  refine TCall.toPure (r := .lit (.bool true)) ?_ hK
  refine TCall.w 99 [.tmp 2] Tryz.func12 rfl rfl rfl rfl (by kernel_rfl) rfl ?_
  simp -implicitDefEqProofs (disch := omega) only [seval, go_sem]
  refine c_Get_nil ?_
  simp -implicitDefEqProofs (disch := omega) only [seval, go_sem, rowN_mk]
  refine c_Put_nil ?_
  simp -implicitDefEqProofs (disch := omega) only [seval, go_sem, List.append_eq, List.cons_append, List.nil_append]
  refine c_fresh10 ?_
  simp -implicitDefEqProofs (disch := omega) only [seval, go_sem]
  refine c_Has_nil ?_
  simp -implicitDefEqProofs (disch := omega) only [seval, go_sem]
  refine c_Paths_nil ?_
  simp -implicitDefEqProofs (disch := omega) only [seval, go_sem]
  refine c_Refs_nil ?_
  simp -implicitDefEqProofs (disch := omega) only [seval, go_sem]
  refine c_Referrers_nil ?_
  simp -implicitDefEqProofs (disch := omega) only [seval, go_sem]
  refine c_Closure_nil ?_
  simp -implicitDefEqProofs (disch := omega) only [seval, go_sem]
  refine c_Roots_nil ?_
  simp -implicitDefEqProofs (disch := omega) only [seval, go_sem]
  refine c_Live_nil ?_
  simp -implicitDefEqProofs (disch := omega) only [seval, go_sem]
  refine c_Sweep_nil ?_
  simp -implicitDefEqProofs (disch := omega) only [seval, go_sem]
  refine c_Stamp_nil ?_
  simp -implicitDefEqProofs (disch := omega) only [seval, go_sem]
  refine c_Version_nil ?_
  simp -implicitDefEqProofs (disch := omega) only [seval, go_sem]
  refine c_Root_nil ?_
  simp -implicitDefEqProofs (disch := omega) only [seval, go_sem]
  refine c_Unroot_nil ?_
  simp -implicitDefEqProofs (disch := omega) only [seval, go_sem]
  refine c_Delete_nil ?_
  simp -implicitDefEqProofs (disch := omega) only [seval, go_sem]
  refine c_Check_nil ?_
  simp -implicitDefEqProofs (disch := omega) only [seval, go_sem]
  refine c_Store_new fun S1 s I h1 hf1 hk1 => ?_
  simp -implicitDefEqProofs (disch := omega) only [seval, go_sem]
  refine c_Same_nil h1 ?_
  simp -implicitDefEqProofs (disch := omega) only [seval, go_sem]
  exact ⟨.lit _, (Keep.push _ _).trans hk1⟩
end
end Go.Proofs.YtoldjfappfbfbaaGreatDoor
