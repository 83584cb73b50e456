/-
  Lemmas of the claim, part 5: Qv Sa Ta Tb Rb Rc Rd Re Rf Tc Td Ua.
-/
import Derived.Test.YtoldjfappfbfbaaGreatDoorMdd
set_option linter.unusedVariables false
set_option linter.unusedSimpArgs false
namespace Go.Proofs.YtoldjfappfbfbaaGreatDoor
open Go.RowKit TL
/-- A book holds these claims; what it owns. -/
def BkS (S : TS) (b : Nat) (l : Int → List Cl) (F : Nat → Prop) : Prop := ∃ m kf es clock ks, BookOk S b l m kf es clock ks ∧ F = BookFoot b m l kf
theorem BkS.flt {S : TS} {b : Nat} {l : Int → List Cl} {F : Nat → Prop} (h : BkS S b l F) : ∀ id, F id → id < S.n := by
  obtain ⟨m, kf, es, clock, ks, hb, rfl⟩ := h
  rintro id (rfl | rfl | ⟨o, ho, rfl⟩)
  · exact hb.bl
  · exact hb.ml
  · exact (hb.yes o ho).2.2.1
theorem BkS.fr {S S' : TS} {b : Nat} {l : Int → List Cl} {F : Nat → Prop} (h : BkS S b l F) (hn : S.n ≤ S'.n) (ho : ∀ id, F id → S'.objs id = S.objs id) : BkS S' b l F := by
  obtain ⟨m, kf, es, clock, ks, hb, rfl⟩ := h
  refine ⟨m, kf, es, clock, ks, ⟨(ho _ (.inl rfl)).trans hb.ob, (ho _ (.inr (.inl rfl))).trans hb.om, hb.mo, hb.bm, Nat.lt_of_lt_of_le hb.bl hn, Nat.lt_of_lt_of_le hb.ml hn, hb.no, fun o h => ?_, hb.inj⟩, rfl⟩
  obtain ⟨g1, g2, g3, g4⟩ := hb.yes o h
  exact ⟨g1, (ho _ (.inr (.inr ⟨o, h, rfl⟩))).trans g2, Nat.lt_of_lt_of_le g3 hn, g4⟩
theorem BkS.keep {S S' : TS} {b : Nat} {l : Int → List Cl} {F : Nat → Prop} (h : BkS S b l F) (hk : Keep S S') : BkS S' b l F := h.fr hk.1 fun id hi => hk.2 id (h.flt id hi)
theorem BkS.push {S : TS} {b : Nat} {l : Int → List Cl} {F : Nat → Prop} (h : BkS S b l F) (o : TObj) : BkS (S.push o) b l F := h.keep (Keep.push _ _)
theorem BkS.frm {S S' : TS} {b : Nat} {l : Int → List Cl} {F G : Nat → Prop} (h : BkS S b l F) (f : Frm S S' G) (hF : ∀ id, F id → ¬ G id) : BkS S' b l F := h.fr f.n fun id hi => f.o id (h.flt id hi) (hF id hi)
theorem c_Book_new {S : TS} {K : TV → TS → Prop} (hK : ∀ S' b F, BkS S' b (fun _ => []) F → (∀ id, F id → S.n ≤ id) → Keep S S' → K (.ptr b 0) S') : TCall env 19 [] S K :=
  c_claim_New fun S' b m es clock ks hb h1 h2 h3 => hK S' b _ ⟨m, _, es, clock, ks, hb, rfl⟩ (by
    rintro id (rfl | rfl | ⟨o, ho, rfl⟩)
    · exact h1
    · exact h2
    · exact absurd rfl ho) h3
theorem c_Note {S : TS} {b : Nat} {l : Int → List Cl} {F : Nat → Prop} {o : Int} {p : Bs} {s : BitVec 64} {K : TV → TS → Prop} (h : BkS S b l F)
    (hK : ∀ S' F', BkS S' b (fun i => if i = o then l o ++ [(p, s)] else l i) F' → Frm S S' F → (∀ id, F' id → F id ∨ S.n ≤ id) → K (.tup []) S')
    (ho : -9223372036854775808 ≤ o ∧ o ≤ 9223372036854775807) (hl : (l o).length ≤ 1000000 := by omega) : TCall env 20 [.ptr b 0, .lit (.int .i64 o), .lit (.string (st p)), .lit (w64 s)] S K := by
  obtain ⟨m, kf, es, clock, ks, hb, rfl⟩ := h
  refine c_Book_Note hb (fun S' kf' es' clock' ks' hb' hn ho' hk => hK S' _ ⟨m, kf', es', clock', ks', hb', rfl⟩ ⟨hn, ho'⟩ ?_) ho hl
  rintro id (rfl | rfl | ⟨i, hi, rfl⟩)
  · exact .inl (.inl rfl)
  · exact .inl (.inr (.inl rfl))
  · rw [hk i]
    simp only at hi
    by_cases e : i = o
    · rw [if_pos e]; exact .inr (Nat.le_refl _)
    · rw [if_neg e] at hi
      rw [if_neg e]
      exact .inl (.inr (.inr ⟨i, hi, rfl⟩))
theorem BookOk.drop {S : TS} {b m clock : Nat} {l : Int → List Cl} {kf : Int → Nat} {es : Ents} {ks : List Int} (h : BookOk S b l m kf es clock ks) (o : Int) :
    ∃ ks', BookOk (S.set m (.map (delE (kI.v o) es) clock)) b (fun i => if i = o then [] else l i) m kf (delE (kI.v o) es) clock ks' := by
  refine ⟨_, (st_old _ h.bm).trans h.ob, TS.set_same' _ _ _, h.mo.del o, h.bm, h.bl, h.ml, fun i hi => ?_, fun i hi => ?_, fun i j h1 h2 hk => ?_⟩
  · rw [h.mo.get_del]
    by_cases e : i = o
    · rw [if_pos e]
    · rw [if_neg e] at hi ⊢; exact h.no i hi
  · by_cases e : i = o
    · rw [if_pos e] at hi; exact absurd rfl hi
    · simp only [if_neg e] at hi ⊢
      obtain ⟨g1, g2, g3, g4, g5⟩ := h.yes i hi
      rw [h.mo.get_del, if_neg e]
      exact ⟨g1, (st_old _ g5).trans g2, g3, g4, g5⟩
  · have e1 : i ≠ o := fun e => by rw [if_pos e] at h1; exact h1 rfl
    have e2 : j ≠ o := fun e => by rw [if_pos e] at h2; exact h2 rfl
    rw [if_neg e1] at h1
    rw [if_neg e2] at h2
    exact h.inj i j h1 h2 hk
theorem c_OfB {S : TS} {b : Nat} {l : Int → List Cl} {F : Nat → Prop} {o : Int} {K : TV → TS → Prop} (h : BkS S b l F) (hK : K (.sl .none 2 (dC (l o))) S) (hl : (l o).length ≤ 1000000 := by omega) : TCall env 23 [.ptr b 0, .lit (.int .i64 o)] S K := by
  obtain ⟨m, kf, es, clock, ks, hb, rfl⟩ := h
  exact .toPure (c_Book_Of hb ⟨.slN _ _ _, Keep.push _ _⟩ hl) hK
theorem w64_inj {a b : BitVec 64} (h : w64 a = w64 b) : a = b := by
  unfold w64 at h
  injection h with _ h
  exact BitVec.eq_of_toNat_eq (by omega)
theorem c_FreshB {S : TS} {b : Nat} {l : Int → List Cl} {F : Nat → Prop} {o : Int} {s : Nat} {I : StI} {L : List RowM} {jd : List D} {B : Bs → Bs → Bool} {roots : List Bs} {ver : BitVec 64} {tc : List (Bs × BitVec 64)} {K : TV → TS → Prop} (h : BkS S b l F) (g : StG S s I L jd B roots ver tc)
    (hK : K (.lit (.bool ((l o).all fun x => decide (stampT tc x.1 = x.2)))) S) (hl : (l o).length ≤ 1000000 := by omega) : TCall env 22 [.ptr b 0, .lit (.int .i64 o), .ptr s 0] S K := by
  obtain ⟨m, kf, es, clock, ks, hb, rfl⟩ := h
  obtain ⟨es2, c2, ks2, om2, mo2, hg2⟩ := g.sm
  refine c_Book_Fresh (f := fun p => if (getM kS es2 p).isSome then some (stampT tc p) else none) hb g.os om2 mo2 g.lt.1 g.lt.2.2.2 (fun p => ?_) ?_ hl
  · have := hg2 p
    cases hq : getM kS es2 p with
    | none => rfl
    | some v => rw [hq] at this; simp only [Option.getD_some] at this; rw [this]; rfl
  · have e : ∀ x : Cl, stampOf (fun p => if (getM kS es2 p).isSome then some (stampT tc p) else none) x.1 = stampT tc x.1 := fun x => by
      have := hg2 x.1
      unfold stampOf
      cases hq : getM kS es2 x.1 with
      | none =>
        rw [hq] at this
        simp only [Option.getD_none] at this
        injection this with this
        have h2 := w64_inj this
        simp only [hq, Option.isSome_none, Bool.false_eq_true, if_false, Option.getD_none]
        exact h2
      | some v => simp only [hq, Option.isSome_some, if_true, Option.getD_some]
    simp only [e]
    have e2 : (!(l o).any fun x => decide (stampT tc x.1 ≠ x.2)) = (l o).all fun x => decide (stampT tc x.1 = x.2) := by
      induction l o with
      | nil => rfl
      | cons x l ih =>
        rw [List.any_cons, List.all_cons, Bool.not_or, ih]
        by_cases h : stampT tc x.1 = x.2 <;> simp [h]
    rw [e2]; exact hK
theorem stF_lit (s : Nat) (I : StI) (h : ∀ q, I.bf q = none) (id : Nat) : stF s I id ↔ id ∈ [s, I.tab, I.rm, I.k, I.bk, I.rt, I.sm] := ⟨fun hh => hh.resolve_right fun ⟨q, hq⟩ => (by rw [h q] at hq; cases hq), .inl⟩
/-- A new store. -/
theorem c_Store_new {S : TS} {K : TV → TS → Prop} (hK : ∀ S' s I, StOk S' s I .new → (∀ id, stF s I id → S.n ≤ id) → Keep S S' → K (.ptr s 0) S') : TCall env 16 [] S K := by
  refine TCall.gh ?_
  refine c_db_New ?_
  generalize hS5 : ((((((S.push (.map [] 0)).push (.cells 168 [.mp S.n, .sl .full 0 []])).push (.map [] 0)).push (.map [] 0)).push (.map [] 0)).push (.cells 114 [.ptr (S.n + 1) 0, .mp (S.n + 2), .mp (S.n + 3), .mp (S.n + 4), .lit (w64 0#64)])) = S5
  have hn5 : S5.n = S.n + 6 := by rw [← hS5]; rfl
  have o0 : S5.objs S.n = .map [] 0 := by rw [← hS5]; exact psh_old0 (psh_old0 (psh_old0 (psh_old0 (psh_old0 (push_self _ _) (by simp only [TS.push_n]; omega)) (by simp only [TS.push_n]; omega)) (by simp only [TS.push_n]; omega)) (by simp only [TS.push_n]; omega)) (by simp only [TS.push_n]; omega)
  have o1 : S5.objs (S.n + 1) = .cells 168 [.mp S.n, .sl .full 0 []] := by rw [← hS5]; exact psh_old0 (psh_old0 (psh_old0 (psh_old0 (push_self (S.push _) _) (by simp only [TS.push_n]; omega)) (by simp only [TS.push_n]; omega)) (by simp only [TS.push_n]; omega)) (by simp only [TS.push_n]; omega)
  have o2 : S5.objs (S.n + 2) = .map [] 0 := by rw [← hS5]; exact psh_old0 (psh_old0 (psh_old0 (push_self ((S.push _).push _) _) (by simp only [TS.push_n]; omega)) (by simp only [TS.push_n]; omega)) (by simp only [TS.push_n]; omega)
  have o3 : S5.objs (S.n + 3) = .map [] 0 := by rw [← hS5]; exact psh_old0 (psh_old0 (push_self (((S.push _).push _).push _) _) (by simp only [TS.push_n]; omega)) (by simp only [TS.push_n]; omega)
  have o4 : S5.objs (S.n + 4) = .map [] 0 := by rw [← hS5]; exact psh_old0 (push_self ((((S.push _).push _).push _).push _) _) (by simp only [TS.push_n]; omega)
  have o5 : S5.objs (S.n + 5) = .cells 114 [.ptr (S.n + 1) 0, .mp (S.n + 2), .mp (S.n + 3), .mp (S.n + 4), .lit (w64 0#64)] := by rw [← hS5]; exact push_self (((((S.push _).push _).push _).push _).push _) _
  have hk5 : Keep S S5 := by rw [← hS5]; exact (((((Keep.push _ _).push' _).push' _).push' _).push' _).push' _
  have hgh := Gh.bufCell 173 6 1 o1 rfl
  refine ⟨_, hgh, ?_⟩
  have hold : ∀ id o, id ≠ S.n + 1 → id < S5.n → S5.objs id = o → ((S5.push (.cells 173 [])).set (S.n + 1) (.cells 168 ([TV.mp S.n, .sl .full 0 []].set 1 (.vs S5.n 0 6 0)))).objs id = o := fun id o h1 h2 h3 => (st_old _ h1).trans (psh_old0 h3 h2)
  have p0 := hold S.n _ (by omega) (by omega) o0
  have p2 := hold (S.n + 2) _ (by omega) (by omega) o2
  have p3 := hold (S.n + 3) _ (by omega) (by omega) o3
  have p4 := hold (S.n + 4) _ (by omega) (by omega) o4
  have p5 := hold (S.n + 5) _ (by omega) (by omega) o5
  refine hK _ (S.n + 5) ⟨S.n + 1, S.n, S5.n, S.n + 2, S.n + 3, S.n + 4, fun _ => none⟩ ⟨p5, ⟨TS.set_same' _ _ _, (st_old _ (by show S5.n ≠ _; omega)).trans (push_self _ _), rfl, ⟨[], 0, [], p0, MapOk.nil, fun p => rfl, List.Perm.refl _⟩, ⟨by show S.n + 1 < S5.n + 1; omega, by show S.n < S5.n + 1; omega, Nat.lt_succ_self _⟩, ⟨by show S.n + 1 ≠ S.n; omega, by show S.n + 1 ≠ S5.n; omega, by show S.n ≠ S5.n; omega⟩⟩,
    ⟨⟨[], 0, [], p2, MapOk.nil, fun q => rfl⟩, (fun q id h => by cases h), (fun q _ p => rfl), (fun q q' id h => by cases h)⟩, ⟨[], 0, [], p3, MapOk.nil, fun p => rfl⟩, ⟨[], 0, [], p4, MapOk.nil, fun p => rfl⟩,
    ⟨by show S.n + 5 < S5.n + 1; omega, by show S.n + 2 < S5.n + 1; omega, by show S.n + 3 < S5.n + 1; omega, by show S.n + 4 < S5.n + 1; omega⟩, nodup7.2 ?_, (fun q id h => by cases h)⟩ ?_ ?_
  · show StNe (S.n + 5) (S.n + 1) S.n S5.n (S.n + 2) (S.n + 3) (S.n + 4)
    exact ⟨by omega, by omega, by omega, by omega, by omega, by omega, by omega, by omega, by omega, by omega, by omega, by omega, by omega, by omega, by omega, by omega, by omega, by omega, by omega, by omega, by omega⟩
  · intro id hid
    rw [stF_lit _ _ (fun _ => rfl)] at hid
    simp only [List.mem_cons, List.not_mem_nil, or_false] at hid
    omega
  · exact (hk5.push' _).set (by omega) _
end Go.Proofs.YtoldjfappfbfbaaGreatDoor
namespace Go.Proofs.YtoldjfappfbfbaaGreatDoor
open Go.RowKit TL
def rowOne (ar : Bs) : RowM := ⟨mkP nN ar [], nN, ar, []⟩
theorem rowOne_fits (ar : Bs) : fitsR (rowOne ar) = true := by
  unfold fitsR rowOne
  rw [right_n, refs_nil]
  exact decide_eq_true rfl
theorem rowOne_B (ar : Bs) (h : ar.length ≤ 1000000) : RowB (rowOne ar) := ⟨by show (1:Nat) ≤ _; decide, h, by simp [rowOne], (fun s h => by cases h), by show (mkP nN ar []).length ≤ 100000; rw [mkP_len]; decide⟩
theorem put_one (ar : Bs) : putM .new [rowOne ar] = (touchM { StM.new with L := [rowOne ar], ver := 1#64 } [mkP nN ar []], 0) := by
  have h1 : putF [] [rowOne ar] [] = (0, [rowOne ar]) := by
    unfold putF
    rw [rowOne_fits, if_neg (by simp), if_neg (by simp [hasP, rowAt]), if_neg (by simp [rowOne]), if_neg (by simp)]
    rfl
  have h2 : putF StM.new.L [rowOne ar] [] = (0, [rowOne ar]) := h1
  unfold putM
  rw [h2]
  rfl
set_option maxRecDepth 8000 in
set_option maxHeartbeats 1000000 in
theorem c_touched {S : TS} {K : TV → TS → Prop} (hK : K (.lit (.bool true)) S) : TCall env 13 [] S K := by
  refine TCall.toPure (r := .lit (.bool true)) ?_ hK
  refine TCall.w 43 [.tmp 0] Tryz.func13 rfl rfl rfl rfl (by kernel_rfl) rfl ?_
  simp -implicitDefEqProofs (disch := omega) only [seval, go_sem]
  refine c_Store_new fun S1 s I h1 hf1 hk1 => ?_
  simp -implicitDefEqProofs (disch := omega) only [seval, go_sem]
  refine c_Book_new fun S2 b F h2 hF2 hk2 => ?_
  have g2 := StG.keep h1 hk2
  simp -implicitDefEqProofs (disch := omega) only [seval, go_sem]
  refine c_r10_New ?_
  simp -implicitDefEqProofs (disch := omega) only [seval, go_sem, refV_mk]
  refine .argL (.same (.same (.empty (.empty .nil)))) (c_ref07_Make0 (nm := nN) (ar := []) (ga := .full) ?_ right_n (by simp))
  simp -implicitDefEqProofs (disch := omega) only [seval, go_sem]
  refine c_StampG g2 ?_
  simp -implicitDefEqProofs (disch := omega) only [seval, go_sem]
  refine c_Note h2 (fun S3 F3 h3 f3 s3 => ?_) (by omega) (by simp)
  have g3 := g2.frm f3 (fun id hid hF => by have := hF2 id hF; have := h1.flt id hid; omega)
  simp -implicitDefEqProofs (disch := omega) only [seval, go_sem]
  refine c_FreshB h3 g3 ?_ (by simp)
  simp -implicitDefEqProofs (disch := omega) only [seval, go_sem]
  refine .conv (b := [.ptr s 0, .sl .none 4 (dR [rowOne []])]) (.cons (.refl _) (.cons (.sl _ (.cons (De.aggF (.cons (.refl _) (.cons (.refl _) (.cons (.sl0 _ _) (.cons (.sl0 _ _) .nil))))) .nil)) .nil)) ?_
  refine c_Put g3 .nil (fun r hr => by rw [List.mem_singleton] at hr; subst hr; exact rowOne_B [] (Nat.zero_le _)) (.inl rfl) (by simp) (fun S4 I4 g4 t4 => ?_)
  rw [put_one] at g4 ⊢
  simp -implicitDefEqProofs (disch := omega) only [seval, go_sem]
  have h4 := h3.frm t4.fr (fun id hid hF => by
    have h5 := h1.flt id hF
    have h6 := hk2.1
    rcases s3 id hid with h | h
    · have := hF2 id h; omega
    · omega)
  refine c_FreshB h4 g4 ?_ (by show (1:Nat) ≤ _; decide)
  rw [show ((if (1:Int) = 1 then [] ++ [(mkP nN [] [], stampT StM.new.tc (mkP nN [] []))] else []).all fun x => decide (stampT (touchM { StM.new with L := [rowOne []], ver := 1#64 } [mkP nN [] []]).tc x.1 = x.2)) = false from by simp [StM.new, touchM, stampT]]
  simp -implicitDefEqProofs (disch := omega) only [seval, go_sem]
  refine c_FreshB h4 g4 ?_ (by show (0:Nat) ≤ _; decide)
  rw [show ((if (2:Int) = 1 then [] ++ [(mkP nN [] [], stampT StM.new.tc (mkP nN [] []))] else []).all fun x => decide (stampT (touchM { StM.new with L := [rowOne []], ver := 1#64 } [mkP nN [] []]).tc x.1 = x.2)) = true from by simp]
  simp -implicitDefEqProofs (disch := omega) only [seval, go_sem]
  refine ⟨.lit _, ⟨?_, fun id hid => ?_⟩⟩
  · have := hk1.1; have := hk2.1; have := f3.n; have := t4.fr.n; omega
  · have := hk1.1; have := hk2.1; have := f3.n
    rw [t4.fr.o id (by omega) (fun h => by have := hf1 id h; omega), f3.o id (by omega) (fun h => by have := hF2 id h; omega), hk2.2 id (by omega), hk1.2 id hid]
theorem c_Note2 {S : TS} {b : Nat} {l : Int → List Cl} {F : Nat → Prop} {o : Int} {p : Bs} {s : BitVec 64} {K : TV → TS → Prop} (h : BkS S b l F)
    (hK : ∀ S' F' l', BkS S' b l' F' → l' o = l o ++ [(p, s)] → (∀ i, i ≠ o → l' i = l i) → Frm S S' F → (∀ id, F' id → F id ∨ S.n ≤ id) → K (.tup []) S')
    (ho : -9223372036854775808 ≤ o ∧ o ≤ 9223372036854775807) (hl : (l o).length ≤ 1000000 := by omega) : TCall env 20 [.ptr b 0, .lit (.int .i64 o), .lit (.string (st p)), .lit (w64 s)] S K :=
  c_Note h (fun S' F' h' f s => hK S' F' _ h' (if_pos rfl) (fun i hi => if_neg hi) f s) ho hl
end Go.Proofs.YtoldjfappfbfbaaGreatDoor
namespace Go.Proofs.YtoldjfappfbfbaaGreatDoor
open Go.RowKit TL
/-- What always holds, with bounds. -/
structure Inv (M : StM) : Prop where
  wf : M.Wf
  rb : ∀ r ∈ M.L, RowB r
  ll : M.L.length ≤ 64
  rl : M.roots.length ≤ 16
theorem Inv.new : Inv .new := ⟨⟨List.nodup_nil, (fun r h => by cases h), (fun r h => by cases h), List.Pairwise.nil, (fun p h => by cases h)⟩, (fun r h => by cases h), Nat.zero_le _, Nat.zero_le _⟩
section
variable {M : StM}
theorem Inv.nd (h : Inv M) : (pathsOf M.L).Nodup := h.wf.nd
theorem Inv.pb (h : Inv M) : ∀ p ∈ pathsOf M.L, p.length ≤ 100000 := fun p hp => by
  obtain ⟨r, hr, rfl⟩ := List.mem_map.1 hp
  exact (h.rb r hr).pt
theorem putF_inv (L : List RowM) : ∀ (l fr : List RowM), (∀ r ∈ fr, fitsR r = true ∧ ∀ q ∈ r.refs, hasP (L ++ fr) q = true) → (L ++ fr).length ≤ 64 →
    (∀ r ∈ (putF L l fr).2, fitsR r = true ∧ ∀ q ∈ r.refs, hasP (L ++ (putF L l fr).2) q = true) ∧ (L ++ (putF L l fr).2).length ≤ 64
  | [], fr, h, hl => ⟨h, hl⟩
  | r :: l, fr, h, hl => by
    unfold putF
    split
    · exact ⟨h, hl⟩
    rename_i h1
    split
    · exact putF_inv L l fr h hl
    split
    · exact ⟨h, hl⟩
    rename_i h3
    split
    · exact ⟨h, hl⟩
    rename_i h4
    refine putF_inv L l (fr ++ [r]) (fun x hx => ?_) (by simp only [List.length_append, List.length_singleton] at h4 ⊢; omega)
    have hmono : ∀ q, hasP (L ++ fr) q = true → hasP (L ++ (fr ++ [r])) q = true := fun q hq => by rw [← List.append_assoc, hasP_app, hq]; rfl
    rcases List.mem_append.1 hx with hx | hx
    · exact ⟨(h x hx).1, fun q hq => hmono q ((h x hx).2 q hq)⟩
    · rw [List.mem_singleton.1 hx]
      refine ⟨by simpa using h1, fun q hq => hmono q ?_⟩
      have h3' : r.refs.all (hasP (L ++ fr)) = true := by simpa using h3
      exact List.all_eq_true.1 h3' q hq
theorem Inv.put (h : Inv M) {l : List RowM} (hb : ∀ r ∈ l, RowB r) : Inv (putM M l).1 := by
  unfold putM
  split
  · exact h
  split
  · exact h
  obtain ⟨g1, g2⟩ := putF_inv M.L l [] (fun r hr => by cases hr) (by rw [List.append_nil]; exact h.ll)
  have g3 := putF_nodup M.L l [] (by rw [List.append_nil]; exact h.nd)
  have g4 := putF_sub M.L l []
  have hm : ∀ q, hasP M.L q = true → hasP (M.L ++ (putF M.L l []).2) q = true := fun q hq => by rw [hasP_app, hq]; rfl
  refine ⟨⟨g3, fun r hr => ?_, fun r hr q hq => ?_, h.wf.rs, fun p hp => hm p (h.wf.rt p hp)⟩, fun r hr => ?_, g2, h.rl⟩
  · rcases List.mem_append.1 hr with hr | hr
    · exact h.wf.fit r hr
    · exact (g1 r hr).1
  · rcases List.mem_append.1 hr with hr | hr
    · exact hm q (h.wf.ref r hr q hq)
    · exact (g1 r hr).2 q hq
  · rcases List.mem_append.1 hr with hr | hr
    · exact h.rb r hr
    · rcases g4 r hr with hr | hr
      · cases hr
      · exact hb r hr
theorem Inv.root (h : Inv M) (p : Bs) : Inv (rootM M p).1 := by
  unfold rootM
  split
  · exact h
  rename_i h1
  split
  · exact h
  split
  · exact h
  rename_i h3
  refine ⟨⟨h.wf.nd, h.wf.fit, h.wf.ref, riseL_ris _, fun q hq => ?_⟩, h.rb, h.ll, ?_⟩
  · have hq : q ∈ riseL (M.roots ++ [p]) := hq
    rw [riseL_mem] at hq
    rcases List.mem_append.1 hq with hq | hq
    · exact h.wf.rt q hq
    · rw [List.mem_singleton.1 hq]
      have h1' : hasP M.L p = true := by simpa using h1
      exact h1'
  · show (riseL (M.roots ++ [p])).length ≤ 16
    have := riseL_len (M.roots ++ [p])
    simp only [List.length_append, List.length_singleton] at this
    omega
theorem hasP_filter (L : List RowM) (g : List Bs) {q : Bs} (hq : q ∉ g) : hasP (L.filter fun r => !decide (r.path ∈ g)) q = hasP L q := by
  unfold hasP
  rw [rowAt_filter_no L g hq]
theorem Inv.cut (h : Inv M) {g : List Bs} (h1 : ∀ r ∈ M.L, r.path ∉ g → ∀ q ∈ r.refs, q ∉ g) (h2 : ∀ p ∈ M.roots, p ∉ g) : Inv (cutM M g) := by
  have hs : ∀ r, r ∈ (M.L.filter fun r => !decide (r.path ∈ g)) → r ∈ M.L ∧ r.path ∉ g := fun r hr => by
    have := List.mem_filter.1 hr
    exact ⟨this.1, by simpa using this.2⟩
  refine ⟨⟨?_, fun r hr => h.wf.fit r (hs r hr).1, fun r hr q hq => ?_, h.wf.rs, fun p hp => ?_⟩, fun r hr => h.rb r (hs r hr).1, Nat.le_trans (List.length_filter_le _ _) h.ll, h.rl⟩
  · exact h.nd.sublist ((List.filter_sublist (l := M.L)).map _)
  · show hasP (M.L.filter fun r => !decide (r.path ∈ g)) q = true
    rw [hasP_filter _ _ (h1 r (hs r hr).1 (hs r hr).2 q hq)]
    exact h.wf.ref r (hs r hr).1 q hq
  · show hasP (M.L.filter fun r => !decide (r.path ∈ g)) p = true
    rw [hasP_filter _ _ (h2 p hp)]
    exact h.wf.rt p hp
theorem Inv.delete (h : Inv M) (p : Bs) : Inv (deleteM M p).1 := by
  unfold deleteM
  split
  · exact h
  split
  · exact h
  rename_i h2
  have hn : ¬ p ∈ M.roots := fun e => h2 (.inl e)
  have hr : withoutL (referrersL M.L p) p = [] := Classical.byContradiction fun e => h2 (.inr e)
  refine h.cut (fun r hr1 hr2 q hq hqg => ?_) fun q hq hqg => ?_
  · rw [List.mem_singleton] at hqg hr2
    subst hqg
    have hm : r.path ∈ withoutL (referrersL M.L q) q := by
      unfold withoutL
      refine List.mem_filter.2 ⟨?_, by simpa using hr2⟩
      rw [referrersL, riseL_mem]
      exact List.mem_map.2 ⟨r, List.mem_filter.2 ⟨hr1, by simpa using hq⟩, rfl⟩
    rw [hr] at hm
    cases hm
  · rw [List.mem_singleton.1 hqg] at hq
    exact hn hq
theorem refsOf_mem {L : List RowM} (hnd : (pathsOf L).Nodup) {r : RowM} (hr : r ∈ L) : refsOf L r.path = r.refs := by
  unfold refsOf
  rw [rowAt_of_mem hnd hr]
/-! ### what a change touches -/
structure Chg (M M' : StM) (l : List Bs) : Prop where
  ver : M'.ver = M.ver + 1#64
  tc : M'.tc = M.tc ++ l.map fun p => (p, M.ver + 1#64)
  row : ∀ q, q ∉ l → rowAt M'.L q = rowAt M.L q
end
/-! ### claims that are fresh -/
/-- Since a store: what was not touched is as it was. -/
structure SureI (M0 M : StM) (n : Nat) : Prop where
  lo : M0.ver.toNat ≤ M.ver.toNat
  hi : M.ver.toNat ≤ n
  st : ∀ q, M0.ver.toNat < (stampT M.tc q).toNat ∨ (stampT M.tc q = stampT M0.tc q ∧ rowAt M.L q = rowAt M0.L q)
theorem SureI.refl {M : StM} {n : Nat} (h : M.ver.toNat ≤ n) : SureI M M n := ⟨Nat.le_refl _, h, fun q => .inr ⟨rfl, rfl⟩⟩
theorem SureI.mono {M0 M : StM} {n m : Nat} (h : SureI M0 M n) (hm : n ≤ m) : SureI M0 M m := ⟨h.lo, Nat.le_trans h.hi hm, h.st⟩
theorem SureI.step {M0 M M' : StM} {n : Nat} (h : SureI M0 M n) (hn : n ≤ 100000) (hc : M' = M ∨ ∃ t, Chg M M' t) : SureI M0 M' (n + 1) := by
  rcases hc with rfl | ⟨t, hv, ht, hr⟩
  · exact h.mono (Nat.le_succ _)
  have h1 := h.hi
  have h2 := h.lo
  have hv' : M'.ver.toNat = M.ver.toNat + 1 := by
    rw [hv, BitVec.toNat_add]
    show (M.ver.toNat + 1) % 18446744073709551616 = _
    omega
  refine ⟨by omega, by omega, fun q => ?_⟩
  rw [ht, stampT_app]
  by_cases hq : q ∈ t
  · rw [if_pos hq, ← hv]
    exact .inl (by omega)
  · rw [if_neg hq, hr q hq]
    exact h.st q
theorem SureI.same {M0 M : StM} {n : Nat} (h : SureI M0 M n) (hw : M0.Wf) (h0 : ∀ q, (stampT M0.tc q).toNat ≤ M0.ver.toNat) {p : Bs} (hp : hasP M0.L p = true) (hs : ∀ q ∈ reachL M0.L [p], stampT M.tc q = stampT M0.tc q) : reachL M.L [p] = reachL M0.L [p] := by
  obtain ⟨r1, m1⟩ := reachL_ok M.L [p]
  obtain ⟨r0, m0⟩ := reachL_ok M0.L [p]
  have hrow : ∀ q ∈ reachL M0.L [p], rowAt M.L q = rowAt M0.L q := fun q hq => by
    rcases h.st q with h1 | h1
    · rw [hs q hq] at h1
      have := h0 q
      omega
    · exact h1.2
  have hp0 : Rch M0.L [p] p := .base (by simp) hp
  refine ris_ext r1 r0 fun q => ?_
  rw [m1, m0]
  constructor
  · intro hq
    induction hq with
    | base hb hh =>
      rw [List.mem_singleton.1 hb]
      exact hp0
    | @step a b ha hb hh ih =>
      have e : refsOf M.L a = refsOf M0.L a := by unfold refsOf; rw [hrow a ((m0 a).2 ih)]
      rw [e] at hb
      have ha0 := ih.has
      obtain ⟨r, hr, hrp⟩ := List.mem_map.1 ((hasP_iff _ _).1 ha0)
      have : b ∈ r.refs := by
        rw [← refsOf_mem hw.nd hr, hrp]; exact hb
      exact .step ih hb (hw.ref r hr b this)
  · intro hq
    have hh : ∀ q, Rch M0.L [p] q → hasP M.L q = true := fun q hq => by
      have := hrow q ((m0 q).2 hq)
      unfold hasP
      rw [this]
      exact hq.has
    induction hq with
    | base hb _ =>
      rw [List.mem_singleton.1 hb]
      exact .base (by simp) (hh p hp0)
    | @step a b ha hb hp2 ih =>
      have e : refsOf M.L a = refsOf M0.L a := by unfold refsOf; rw [hrow a ((m0 a).2 ha)]
      exact .step ih (by rw [e]; exact hb) (hh b (.step ha hb hp2))
end Go.Proofs.YtoldjfappfbfbaaGreatDoor
namespace Go.Proofs.YtoldjfappfbfbaaGreatDoor
open Go.RowKit TL
def names3 : List Bs := [[UInt8.toBitVec 97], [UInt8.toBitVec 98, UInt8.toBitVec 46, UInt8.toBitVec 99], [UInt8.toBitVec 108, UInt8.toBitVec 105, UInt8.toBitVec 98, UInt8.toBitVec 45, UInt8.toBitVec 49]]
theorem names3_ok : ∀ i, i < 3 → rightS (names3.getD i []) = true ∧ (names3.getD i []).length ≤ 5 ∧ names3.getD i [] ≠ [UInt8.toBitVec 111, UInt8.toBitVec 116, UInt8.toBitVec 104, UInt8.toBitVec 101, UInt8.toBitVec 114] := by
  have : ∀ i : Fin 3, rightS (names3.getD i.val []) = true ∧ (names3.getD i.val []).length ≤ 5 ∧ names3.getD i.val [] ≠ [UInt8.toBitVec 111, UInt8.toBitVec 116, UInt8.toBitVec 104, UInt8.toBitVec 101, UInt8.toBitVec 114] := by decide +kernel
  exact fun i h => this ⟨i, h⟩
theorem all_rise {l : List Bs} (h : l.all isP = true) : (riseL l).all isP = true := by
  rw [List.all_eq_true] at h ⊢
  intro x hx
  exact h x ((riseL_mem l x).1 hx)
theorem refsOk_riseL {l : List Bs} (h : l.all isP = true) (hl : l.length ≤ 255) : refsOk (riseL l) = true := by
  rw [refsOk, all_rise h, riseL_eq (riseL_ris l), decide_eq_true (by have := riseL_len l; omega)]
  simp
/-- Some paths that were made ahead. -/
def refsM (made : List RowM) (b n : Nat) : List Bs := (List.range (min n made.length)).map fun i => (made.getD ((b + i) % made.length) default).path
def rowM (ars : List Bs) (made : List RowM) (a b n : Nat) : RowM :=
  ⟨mkP (names3.getD (a % 3) []) (ars.getD (b % ars.length) []) (riseL (refsM made b n)), names3.getD (a % 3) [], ars.getD (b % ars.length) [], riseL (refsM made b n)⟩
/-- A list of rows each of which refers to what is ahead of it. -/
def Chn : List Bs → List RowM → Prop
  | _, [] => True
  | s, r :: l => fitsR r = true ∧ (∀ q ∈ r.refs, q ∈ s) ∧ Chn (s ++ [r.path]) l
theorem Chn.snoc : ∀ {l : List RowM} {s : List Bs} {r : RowM}, Chn s l → fitsR r = true → (∀ q ∈ r.refs, q ∈ s ++ pathsOf l) → Chn s (l ++ [r])
  | [], s, r, _, h1, h2 => ⟨h1, by simpa [pathsOf] using h2, trivial⟩
  | x :: l, s, r, h, h1, h2 => ⟨h.1, h.2.1, h.2.2.snoc h1 (by simpa [pathsOf] using h2)⟩
theorem Chn.take : ∀ {l : List RowM} {s : List Bs} (k : Nat), Chn s l → Chn s (l.take k)
  | [], s, k, h => by rw [List.take_nil]; exact h
  | x :: l, s, 0, h => trivial
  | x :: l, s, k + 1, h => ⟨h.1, h.2.1, h.2.2.take k⟩
theorem putF_chn {L : List RowM} : ∀ (l : List RowM) (s : List Bs) (fr : List RowM), Chn s l → (∀ q ∈ s, hasP (L ++ fr) q = true) → (L ++ fr).length + l.length ≤ 64 →
    (putF L l fr).1 = 0 ∧ (∀ q ∈ s ++ pathsOf l, hasP (L ++ (putF L l fr).2) q = true)
  | [], s, fr, h, hs, hl => ⟨rfl, by simpa [pathsOf, putF] using hs⟩
  | r :: l, s, fr, h, hs, hl => by
    obtain ⟨h1, h2, h3⟩ := h
    have hl2 : (L ++ fr).length + l.length + 1 ≤ 64 := by simp only [List.length_cons] at hl; omega
    have hmem : ∀ q, q ∈ s ++ pathsOf (r :: l) → q ∈ (s ++ [r.path]) ++ pathsOf l := fun q hq => by simpa [pathsOf] using hq
    unfold putF
    rw [if_neg (by rw [h1]; simp)]
    split
    · rename_i h4
      obtain ⟨g1, g2⟩ := putF_chn l (s ++ [r.path]) fr h3 (fun q hq => by
        rcases List.mem_append.1 hq with hq | hq
        · exact hs q hq
        · rw [List.mem_singleton.1 hq]; exact h4) (by omega)
      exact ⟨g1, fun q hq => g2 q (hmem q hq)⟩
    rename_i h4
    rw [if_neg (by rw [List.all_eq_true.2 fun q hq => hs q (h2 q hq)]; simp), if_neg (by omega)]
    obtain ⟨g1, g2⟩ := putF_chn l (s ++ [r.path]) (fr ++ [r]) h3 (fun q hq => by
      rw [← List.append_assoc, hasP_app]
      rcases List.mem_append.1 hq with hq | hq
      · rw [hs q hq]; rfl
      · rw [List.mem_singleton.1 hq, hasP_one]; simp) (by simp only [List.length_append, List.length_singleton] at hl2 ⊢; omega)
    exact ⟨g1, fun q hq => g2 q (hmem q hq)⟩
/-- Rows that were made: from names that are right, archives within bounds, paths ahead. -/
structure MadeOk (l : List RowM) : Prop where
  rb : ∀ r ∈ l, RowB r
  ip : ∀ r ∈ l, isP r.path = true
  nm : ∀ r ∈ l, r.name.length ≤ 5 ∧ r.name ≠ [UInt8.toBitVec 111, UInt8.toBitVec 116, UInt8.toBitVec 104, UInt8.toBitVec 101, UInt8.toBitVec 114]
  ch : Chn [] l
theorem MadeOk.nil : MadeOk [] := ⟨(fun r h => by cases h), (fun r h => by cases h), (fun r h => by cases h), trivial⟩
theorem refsM_mem {made : List RowM} {b n : Nat} {q : Bs} (h : q ∈ refsM made b n) : q ∈ pathsOf made := by
  unfold refsM at h
  obtain ⟨i, hi, rfl⟩ := List.mem_map.1 h
  have hlt : 0 < made.length := by have := List.mem_range.1 hi; omega
  have hk : (b + i) % made.length < made.length := Nat.mod_lt _ hlt
  rw [List.getD_eq_getElem?_getD, List.getElem?_eq_getElem hk]
  exact List.mem_map.2 ⟨_, List.getElem_mem hk, rfl⟩
theorem refsM_len (made : List RowM) (b n : Nat) : (refsM made b n).length = min n made.length := by simp [refsM]
theorem rowM_fits {ars : List Bs} {made : List RowM} (h : ∀ r ∈ made, isP r.path = true) (a b : Nat) {n : Nat} (hn : n ≤ 255) : fitsR (rowM ars made a b n) = true := by
  have h1 := (names3_ok (a % 3) (Nat.mod_lt _ (by decide))).1
  have h2 : refsOk (riseL (refsM made b n)) = true := refsOk_riseL (by
    rw [List.all_eq_true]
    intro q hq
    obtain ⟨r, hr, rfl⟩ := List.mem_map.1 (refsM_mem hq)
    exact h r hr) (by rw [refsM_len]; omega)
  unfold fitsR rowM
  simp only [h1, h2, decide_true, Bool.and_true]
theorem rowM_B {ars : List Bs} {made : List RowM} (ha : ∀ x ∈ ars, x.length ≤ 1000000) (h : ∀ r ∈ made, RowB r) (a b : Nat) {n : Nat} (hn : n ≤ 255) : RowB (rowM ars made a b n) := by
  have h1 := names3_ok (a % 3) (Nat.mod_lt _ (by decide))
  refine ⟨by show (names3.getD (a % 3) []).length ≤ _; omega, ?_, ?_, ?_, ?_⟩
  · show (ars.getD (b % ars.length) []).length ≤ _
    rw [List.getD_eq_getElem?_getD]
    cases he : ars[b % ars.length]? with
    | none => exact Nat.zero_le _
    | some x => exact ha x (List.mem_of_getElem? he)
  · show (riseL (refsM made b n)).length ≤ _
    have := riseL_len (refsM made b n)
    rw [refsM_len] at this
    omega
  · intro q hq
    obtain ⟨r, hr, rfl⟩ := List.mem_map.1 (refsM_mem ((riseL_mem _ _).1 hq))
    exact (h r hr).pt
  · show (mkP _ _ _).length ≤ _
    rw [mkP_len]
    omega
theorem MadeOk.snoc {l : List RowM} (h : MadeOk l) {ars : List Bs} (ha : ∀ x ∈ ars, x.length ≤ 1000000) (a b : Nat) {n : Nat} (hn : n ≤ 255) : MadeOk (l ++ [rowM ars l a b n]) := by
  have h1 := names3_ok (a % 3) (Nat.mod_lt _ (by decide))
  refine ⟨fun r hr => ?_, fun r hr => ?_, fun r hr => ?_, h.ch.snoc (rowM_fits h.ip a b hn) fun q hq => by rw [List.nil_append]; exact refsM_mem ((riseL_mem _ _).1 hq)⟩
  all_goals rcases List.mem_append.1 hr with hr | hr
  · exact h.rb r hr
  · rw [List.mem_singleton.1 hr]; exact rowM_B ha h.rb a b hn
  · exact h.ip r hr
  · rw [List.mem_singleton.1 hr]; exact isP_mkP h1.1
  · exact h.nm r hr
  · rw [List.mem_singleton.1 hr]; exact h1.2
theorem MadeOk.take {l : List RowM} (h : MadeOk l) (k : Nat) : MadeOk (l.take k) :=
  ⟨fun r hr => h.rb r (List.mem_of_mem_take hr), fun r hr => h.ip r (List.mem_of_mem_take hr), fun r hr => h.nm r (List.mem_of_mem_take hr), h.ch.take k⟩
/-- .. can be put into a new store. -/
theorem MadeOk.onNil {l : List RowM} (h : MadeOk l) (hl : l.length ≤ 64) : (putF [] l []).1 = 0 ∧ ∀ q ∈ pathsOf l, hasP (putF [] l []).2 q = true := by
  have := putF_chn (L := []) l [] [] h.ch (fun q hq => by cases hq) (by simpa using hl)
  simpa using this
theorem MadeOk.newPut {l : List RowM} (h : MadeOk l) (hl : l.length ≤ 64) : (putM .new l).2 = 0 ∧ (putM .new l).1.L = (putF [] l []).2 ∧ (putM .new l).1.roots = [] ∧ (putM .new l).1.ver.toNat ≤ 1 ∧ ∀ q, (stampT (putM .new l).1.tc q).toNat ≤ (putM .new l).1.ver.toNat := by
  have h1 := (h.onNil hl).1
  unfold putM
  rw [if_neg (show ¬ (putF StM.new.L l []).1 ≠ 0 from fun e => e h1)]
  split
  · rename_i h2
    exact ⟨rfl, h2.symm, rfl, Nat.zero_le _, fun q => Nat.zero_le _⟩
  · refine ⟨rfl, List.nil_append _, rfl, Nat.le_refl _, fun q => ?_⟩
    show (stampT ([] ++ _) q).toNat ≤ 1
    show (stampT (([] : List (Bs × BitVec 64)) ++ ((putF StM.new.L l []).2.flatMap rowTouch).map fun p => (p, StM.new.ver + 1#64)) q).toNat ≤ 1
    rw [stampT_app]
    split
    · exact Nat.le_refl _
    · exact Nat.zero_le _
end Go.Proofs.YtoldjfappfbfbaaGreatDoor
namespace Go.Proofs.YtoldjfappfbfbaaGreatDoor
open Go.RowKit TL
/-- A tree. -/
inductive Nd where
  | mk (kind : BitVec 8) (names : List Bs) (kids : List Nd) (data : Bs) (run : Bool) (stamp : BitVec 64) (target : Bs)
instance : Inhabited Nd := ⟨.mk 0#8 [] [] [] false 0#64 []⟩
abbrev wF (b : BitVec 64) : Value := .float .f64 b.toNat
mutual
def ndD : Nd → D
  | .mk k ns ks d r s t => .agg [.lit (w8 k), .sl 1 (dT ns), .sl 7 (ndL ks), .sl 1 (dB d), .lit (.bool r), .lit (wF s), .lit (.string (st t))]
def ndL : List Nd → List D
  | [] => []
  | n :: l => ndD n :: ndL l
end
theorem ndL_map : ∀ l : List Nd, ndL l = l.map ndD
  | [] => by simp [ndL]
  | n :: l => by rw [ndL, ndL_map l]; rfl
theorem ndL_len (l : List Nd) : (ndL l).length = l.length := by rw [ndL_map, List.length_map]
theorem ndL_app (a b : List Nd) : ndL (a ++ b) = ndL a ++ ndL b := by rw [ndL_map, ndL_map, ndL_map, List.map_append]
theorem ndL_get {l : List Nd} {i : Nat} (h : i < l.length) : (ndL l).getD i default = ndD (l.getD i default) := by
  rw [ndL_map, List.getD_eq_getElem?_getD, List.getElem?_map, List.getD_eq_getElem?_getD, List.getElem?_eq_getElem h]; rfl
def ndV (n : Nd) : TV := match n with
  | .mk k ns ks d r s t => .agg [.lit (w8 k), .sl .none 1 (dT ns), .sl .none 7 (ndL ks), .sl .none 1 (dB d), .lit (.bool r), .lit (wF s), .lit (.string (st t))]
theorem ndV_mk (k : BitVec 8) (ns : List Bs) (ks : List Nd) (d : Bs) (r : Bool) (s : BitVec 64) (t : Bs) : ndV (.mk k ns ks d r s t) = .agg [.lit (w8 k), .sl .none 1 (dT ns), .sl .none 7 (ndL ks), .sl .none 1 (dB d), .lit (.bool r), .lit (wF s), .lit (.string (st t))] := rfl
theorem ren_ndV (n : Nat) (L : List Nat) (x : Nd) : Ren n L (ndV x) (ndV x) := by
  cases x
  exact .aggF (.cons (.lit _) (.cons (.sl0 _ _ _ (.inl rfl)) (.cons (.sl0 _ _ _ (.inl rfl)) (.cons (.sl0 _ _ _ (.inl rfl)) (.cons (.lit _) (.cons (.lit _) (.cons (.lit _) .nil)))))))
/-- The bits of a number, one of each that are alike. -/
def bitsF (b : BitVec 64) : BitVec 64 := if 9218868437227405312 < (b % 9223372036854775808#64).toNat then 9221120237041090561#64 else if b.toNat = 9223372036854775808 then 0#64 else b
theorem rdCells_one {c : Cx} {w : World} {a : Value} {vs : Array Value} (h : RdCells c w [.lit a] vs) : vs = #[a] := by
  have hs := h.size
  apply Array.ext
  · simpa using hs
  · intro i h1 h2
    have h3 : i < 1 := by simpa using h2
    match i, h3 with
    | 0, _ => exact (h.rd 0 _ _ rfl (Array.getElem?_eq_getElem h1)).lit_inv
theorem c_Float64bits {S : TS} {b : BitVec 64} {K : TV → TS → Prop} (hK : K (.lit (w64 b)) S) : TCall env 186 [.lit (wF b)] S K := by
  refine TCall.of_extern (e := Extern.MathFloatBits.float64bits) Tryz.func186 rfl rfl (by kernel_rfl) (by kernel_rfl) fun w0 c0 w vs hk hv => ?_
  rw [rdCells_one hv]
  exact ⟨_, _, rfl, .lit (w64 b), c0, S, hk, Mono.refl _ _, .lit _, hK⟩
set_option maxRecDepth 8000 in
set_option maxHeartbeats 1000000 in
theorem c_Bits {S : TS} {b : BitVec 64} {K : TV → TS → Prop} (hK : K (.lit (w64 (bitsF b))) S) : TCall env 159 [.lit (wF b)] S K := by
  refine TCall.w 12 [.tmp 2] Tryz.func159 rfl rfl rfl rfl (by kernel_rfl) rfl ?_
  simp -implicitDefEqProofs (disch := omega) only [seval, go_sem]
  refine c_Float64bits ?_
  simp -implicitDefEqProofs (disch := omega) only [seval, go_sem]
  unfold bitsF at hK
  refine cdK_d (fun hc => ?_) (fun hc => ?_)
  · rw [if_pos (by omega)] at hK
    simp -implicitDefEqProofs (disch := omega) only [seval, go_sem]
    exact hK
  · rw [if_neg (by omega)] at hK
    simp -implicitDefEqProofs (disch := omega) only [seval, go_sem]
    refine cdK_d (fun hd => ?_) (fun hd => ?_)
    · rw [if_pos (by omega)] at hK
      simp -implicitDefEqProofs (disch := omega) only [seval, go_sem]
      exact hK
    · rw [if_neg (by omega)] at hK
      simp -implicitDefEqProofs (disch := omega) only [seval, go_sem]
      exact hK
def wideL (b : BitVec 64) : Bs := (List.range 8).map fun i => (b >>> (56 - 8 * i)).setWidth 8
theorem wide_succ (b : BitVec 64) {i : Nat} (h : i < 8) : (wideL b).take (i + 1) = (wideL b).take i ++ [(b >>> (56 - 8 * i)).setWidth 8] := by
  unfold wideL
  rw [← List.map_take, ← List.map_take, List.take_range, List.take_range, Nat.min_eq_left (by omega), Nat.min_eq_left (by omega), List.range_succ, List.map_append]
  rfl
theorem wideL_len (b : BitVec 64) : (wideL b).length = 8 := rfl
set_option maxRecDepth 8000 in
set_option maxHeartbeats 1000000 in
theorem c_Wide {S : TS} {b : BitVec 64} {K : TV → TS → Prop} (hK : K (.sl .none 1 (dB (wideL b))) S) : TCall env 158 [.lit (w64 b)] S K := by
  refine TCall.toPureD (r := .sl .none 1 (dB (wideL b))) ?_ hK
  refine TCall.w 19 [.tmp 2] Tryz.func158 rfl rfl rfl rfl (by kernel_rfl) rfl ?_
  simp -implicitDefEqProofs (disch := omega) only [seval, go_sem]
  refine loW.asRow 3 1 rfl (.inl rfl) ?_
  refine loW_inv (fun n T S' => ∃ (i k : Nat), n + i = 8 ∧ T 0 = .lit (w64 b) ∧ T 3 = .sl (.own k) 1 (dB ((wideL b).take i)) ∧ T 4 = .lit (.int .i64 (i : Int)) ∧ S'.objs k = .lin ∧ k < S'.n ∧ S.n ≤ k ∧ Keep S S') 8 ?_ ?_
  · exact ⟨0, S.n, rfl, rfl, rfl, rfl, push_self _ _, Nat.lt_succ_self _, Nat.le_refl _, Keep.push _ _⟩
  rintro n T S1 ⟨i, k, hi, h0, h3, h4, hk, hkl, hkn, hkp⟩
  simp -implicitDefEqProofs (disch := omega) only [seval, go_sem, h0, h3, h4]
  have htl : ((wideL b).take i).length = i := by rw [List.length_take, wideL_len]; omega
  refine cdK_d (fun hb => ?_) (fun hb => ?_)
  · simp -implicitDefEqProofs (disch := omega) only [seval, go_sem, h0, h3, h4, hk]
    refine ⟨n - 1, by omega, i + 1, S1.n + 1 - 1, by omega, h0, ?_, rfl, push_self _ _, Nat.lt_succ_self _, by have := hkp.1; omega, (hkp.set hkn _).push' _⟩
    rw [wide_succ b (by omega), dB_app]; rfl
  · have e : i = 8 := by omega
    subst e
    simp -implicitDefEqProofs (disch := omega) only [seval, go_sem, h0, h3, h4]
    exact ⟨.sl .none 1 (dB (wideL b)), .sl _ _ _, .slN _ _ _, hkp⟩
theorem quo8 (P : Program) (ty : TypeId) (x : BitVec 8) (b : Int) (h : 0 < b ∧ b < 256) : tvBin P .quo ty (w8 x) (.int .u8 b) = some (w8 (x / BitVec.ofInt 8 b)) := by
  obtain ⟨n, rfl⟩ : ∃ n : Nat, b = (n : Int) := ⟨b.toNat, by omega⟩
  simp only [tvBin, tvInt]
  rw [if_neg (by simp), if_pos trivial, if_neg (by omega), BitVec.ofInt_natCast]
  have e1 : ((x.toNat : Int)).tdiv (n : Int) = ((x.toNat / n : Nat) : Int) := (Int.ofNat_tdiv _ _).symm
  have e2 : x.toNat / n < 256 := Nat.lt_of_le_of_lt (Nat.div_le_self _ _) x.isLt
  have e3 : (x / BitVec.ofNat 8 n).toNat = x.toNat / n := by rw [BitVec.toNat_udiv, BitVec.toNat_ofNat, Nat.mod_eq_of_lt (a := n) (by omega)]
  rw [e1, w8, e3]
  simp [IntKind.wrap, IntKind.bits, IntKind.signed]
  omega
attribute [go_sem] quo8
def titleS (n : BitVec 8) : Bs := [97#8 + n % 26#8, 97#8 + n / 26#8]
set_option maxRecDepth 8000 in
set_option maxHeartbeats 1000000 in
theorem c_title {S : TS} {n : BitVec 8} {K : TV → TS → Prop} (hK : K (.lit (.string (st (titleS n)))) S) : TCall env 160 [.lit (w8 n)] S K := by
  refine TCall.w 11 [.tmp 2] Tryz.func160 rfl rfl rfl rfl (by kernel_rfl) rfl ?_
  have h2 := unbytes_dB (titleS n)
  rw [show dB (titleS n) = [D.lit (w8 (97#8 + n % 26#8)), D.lit (w8 (97#8 + n / 26#8))] from rfl] at h2
  simp -implicitDefEqProofs (disch := omega) only [seval, go_sem, h2, strOf_dB]
  exact hK
def nameR (s : Bs) : Bool := decide (1 ≤ s.length) && decide (s.length ≤ 40) && !decide (s = [UInt8.toBitVec 46]) && !decide (s = [UInt8.toBitVec 46, UInt8.toBitVec 46]) && s.all fun c => decide (c.toNat ≠ 0) && decide (c.toNat ≠ 47)
theorem all_take_no {α : Type} {l : List α} {p : α → Bool} {i : Nat} {d : α} (h : i < l.length) (hp : p (l.getD i d) = false) : l.all p = false := by
  rw [List.all_eq_false]
  refine ⟨l[i], List.getElem_mem h, ?_⟩
  rw [List.getD_eq_getElem?_getD, List.getElem?_eq_getElem h] at hp
  simp only [Option.getD_some] at hp
  rw [hp]; decide
theorem all_take_yes {α : Type} {l : List α} {p : α → Bool} {i : Nat} {d : α} (h : i < l.length) (h0 : (l.take i).all p = true) (hp : p (l.getD i d) = true) : (l.take (i + 1)).all p = true := by
  rw [take_succ_D l d h, List.all_append, h0, List.all_cons, hp]; rfl
set_option maxRecDepth 8000 in
set_option maxHeartbeats 1000000 in
theorem c_nameR {S : TS} {s : Bs} {K : TV → TS → Prop} (hK : K (.lit (.bool (nameR s))) S) (hs : s.length ≤ 100000) : TCall env 185 [.lit (.string (st s))] S K := by
  refine TCall.w 36 [.tmp 2] Tryz.func185 rfl rfl rfl rfl (by kernel_rfl) rfl ?_
  by_cases h1 : s.length < 1
  · rw [show nameR s = false from by simp [nameR]; omega] at hK
    simp -implicitDefEqProofs (disch := omega) only [seval, go_sem]
    exact hK
  by_cases h2 : 40 < s.length
  · rw [show nameR s = false from by simp [nameR]; omega] at hK
    simp -implicitDefEqProofs (disch := omega) only [seval, go_sem]
    exact hK
  cases h3 : decide (s = [UInt8.toBitVec 46])
  · cases h4 : decide (s = [UInt8.toBitVec 46, UInt8.toBitVec 46])
    · have hn : nameR s = s.all fun c => decide (c.toNat ≠ 0) && decide (c.toNat ≠ 47) := by
        unfold nameR
        rw [h3, h4, decide_eq_true (by omega : 1 ≤ s.length), decide_eq_true (by omega : s.length ≤ 40)]
        rfl
      simp -implicitDefEqProofs (disch := omega) only [seval, go_sem, h3, h4]
      refine loW_inv (fun n T S' => ∃ i : Nat, n + i = s.length ∧ T 0 = .lit (.string (st s)) ∧ T 3 = .lit (.int .i64 (i : Int)) ∧ (s.take i).all (fun c => decide (c.toNat ≠ 0) && decide (c.toNat ≠ 47)) = true ∧ S' = S) s.length ?_ ?_
      · exact ⟨0, rfl, rfl, rfl, rfl, rfl⟩
      rintro n T S1 ⟨i, hi, q0, q3, hall, rfl⟩
      simp -implicitDefEqProofs (disch := omega) only [seval, go_sem, q0, q3]
      refine cdK_d (fun hc => ?_) (fun hc => ?_)
      · have hlt : i < s.length := by omega
        have hno := all_take_no (l := s) (p := fun c => decide (c.toNat ≠ 0) && decide (c.toNat ≠ 47)) (d := 0#8) hlt
        have hyes := all_take_yes (l := s) (p := fun c => decide (c.toNat ≠ 0) && decide (c.toNat ≠ 47)) (d := 0#8) hlt hall
        by_cases z0 : (s.getD i 0#8).toNat = 0
        · rw [hn, hno (by rw [z0]; rfl)] at hK
          simp -implicitDefEqProofs (disch := omega) only [seval, go_sem, q0, q3]
          exact hK
        by_cases z1 : (s.getD i 0#8).toNat = 47
        · rw [hn, hno (by rw [z1]; rfl)] at hK
          simp -implicitDefEqProofs (disch := omega) only [seval, go_sem, q0, q3]
          exact hK
        simp -implicitDefEqProofs (disch := omega) only [seval, go_sem, q0, q3]
        exact ⟨n - 1, by omega, i + 1, by omega, q0, rfl, hyes (by rw [decide_eq_true z0, decide_eq_true z1]; rfl), rfl⟩
      · have e : i = s.length := by omega
        subst e
        rw [List.take_length] at hall
        rw [hn, hall] at hK
        simp -implicitDefEqProofs (disch := omega) only [seval, go_sem, q0, q3]
        exact hK
    · rw [show nameR s = false from by simp only [nameR, h4, Bool.not_true, Bool.and_false, Bool.false_and]] at hK
      simp -implicitDefEqProofs (disch := omega) only [seval, go_sem, h3, h4]
      exact hK
  · rw [show nameR s = false from by simp only [nameR, h3, Bool.not_true, Bool.and_false, Bool.false_and]] at hK
    simp -implicitDefEqProofs (disch := omega) only [seval, go_sem, h3]
    exact hK
/-- A tree of at most that many layers, none of them too wide. -/
def NdB (B : Nat) : Nat → Nd → Prop
  | 0, _ => False
  | k + 1, .mk _ ns ks d _ _ t => ns.length = ks.length ∧ ks.length ≤ 39 ∧ d.length ≤ B ∧ t.length ≤ B + 1 ∧ (∀ s ∈ ns, s.length ≤ 40) ∧ ∀ x ∈ ks, NdB B k x
mutual
def depN : Nd → Nat
  | .mk _ _ ks _ _ _ _ => depL ks + 1
def depL : List Nd → Nat
  | [] => 0
  | n :: l => max (depN n) (depL l)
end
mutual
def allN : Nd → List Nd
  | .mk k ns ks d r s t => .mk k ns ks d r s t :: allL ks
def allL : List Nd → List Nd
  | [] => []
  | n :: l => allN n ++ allL l
end
theorem allL_snoc (l : List Nd) (n : Nd) : allL (l ++ [n]) = allL l ++ allN n := by
  induction l with
  | nil => simp [allL]
  | cons x l ih => rw [List.cons_append, allL, ih, allL, List.append_assoc]
theorem depL_snoc (l : List Nd) (n : Nd) : depL (l ++ [n]) = max (depL l) (depN n) := by
  induction l with
  | nil => simp [depL]
  | cons x l ih => rw [List.cons_append, depL, ih, depL]; omega
theorem allL_le {B k c : Nat} (h : ∀ n, NdB B k n → (allN n).length ≤ c) : ∀ l : List Nd, (∀ x ∈ l, NdB B k x) → (allL l).length ≤ l.length * c
  | [], _ => by simp [allL]
  | n :: l, hl => by
    have h1 := h n (hl n (by simp))
    have h2 := allL_le h l fun x hx => hl x (List.mem_cons_of_mem _ hx)
    rw [allL, List.length_append, List.length_cons, Nat.succ_mul]
    omega
def geoN : Nat → Nat
  | 0 => 0
  | k + 1 => 39 * geoN k + 1
theorem allN_le {B : Nat} : ∀ (k : Nat) (n : Nd), NdB B k n → (allN n).length ≤ geoN k
  | 0, n, h => h.elim
  | k + 1, .mk kd ns ks d r s t, h => by
    obtain ⟨h1, h2, h3, h4, h5, h6⟩ := h
    have := allL_le (allN_le k) ks h6
    rw [allN, List.length_cons]
    have h7 : ks.length * geoN k ≤ 39 * geoN k := Nat.mul_le_mul_right _ h2
    rw [geoN]
    omega
theorem geoN_mono : ∀ k, geoN k ≤ geoN (k + 1)
  | k => by rw [geoN]; omega
theorem geoN_le {k : Nat} (h : k ≤ 8) : geoN k ≤ 1000000000000 := by
  have key : ∀ a b, geoN a ≤ geoN (a + b) := fun a b => by
    induction b with
    | zero => exact Nat.le_refl _
    | succ b ih => exact Nat.le_trans ih (geoN_mono _)
  have h8 := key k (8 - k)
  rw [Nat.add_sub_cancel' h] at h8
  exact Nat.le_trans h8 (by decide)
theorem depL_le {B k : Nat} (h : ∀ n, NdB B k n → depN n ≤ k) : ∀ l : List Nd, (∀ x ∈ l, NdB B k x) → depL l ≤ k
  | [], _ => by simp [depL]
  | n :: l, hl => by
    have h1 := h n (hl n (by simp))
    have h2 := depL_le h l fun x hx => hl x (List.mem_cons_of_mem _ hx)
    rw [depL]; omega
theorem depN_le {B : Nat} : ∀ (k : Nat) (n : Nd), NdB B k n → depN n ≤ k
  | 0, n, h => h.elim
  | k + 1, .mk kd ns ks d r s t, h => by
    have := depL_le (depN_le k) ks h.2.2.2.2.2
    rw [depN]; omega
end Go.Proofs.YtoldjfappfbfbaaGreatDoor
namespace Go.Proofs.YtoldjfappfbfbaaGreatDoor
open Go.RowKit TL
theorem ndD_mk (k : BitVec 8) (ns : List Bs) (ks : List Nd) (d : Bs) (r : Bool) (s : BitVec 64) (t : Bs) : ndD (.mk k ns ks d r s t) = .agg [.lit (w8 k), .sl 1 (dT ns), .sl 7 (ndL ks), .sl 1 (dB d), .lit (.bool r), .lit (wF s), .lit (.string (st t))] := by rw [ndD]
set_option maxRecDepth 8000 in
set_option maxHeartbeats 1000000 in
theorem c_Depth {B : Nat} : ∀ (k : Nat) (n : Nd) {S : TS} {K : TV → TS → Prop}, NdB B k n → k ≤ 100 → K (.lit (.int .i64 (depN n : Nat))) S → TCall env 156 [ndV n] S K
  | 0, n, S, K, h, _, _ => h.elim
  | k + 1, .mk kd ns ks d r s t, S, K, hB, hk, hK => by
    refine TCall.toPure (r := .lit (.int .i64 (depN (.mk kd ns ks d r s t) : Nat))) ?_ hK
    obtain ⟨b1, b2, b3, b4, b5, b6⟩ := hB
    have hdl := ndL_len ks
    have ih := @c_Depth B k
    rw [ndV_mk]
    refine TCall.w 25 [.tmp 2] Tryz.func156 rfl rfl rfl rfl (by kernel_rfl) rfl ?_
    simp -implicitDefEqProofs (disch := omega) only [seval, go_sem]
    generalize hS1 : S.push _ = S1
    have hbox : S1.objs S.n = .cells 163 [.lit (w8 kd), .sl .none 1 (dT ns), .sl .none 7 (ndL ks), .sl .none 1 (dB d), .lit (.bool r), .lit (wF s), .lit (.string (st t))] := by rw [← hS1]; exact push_self _ _
    have hkp : Keep S S1 := by rw [← hS1]; exact Keep.push _ _
    refine loW_inv (fun n T S' => ∃ i : Nat, n + i = ks.length ∧ T 1 = .ptr S.n 0 ∧ T 3 = .lit (.int .i64 (depL (ks.take i) : Nat)) ∧ T 4 = .lit (.int .i64 (i : Int)) ∧ S' = S1) ks.length ?_ ?_
    · exact ⟨0, rfl, rfl, rfl, rfl, rfl⟩
    rintro n T S2 ⟨i, hi, q1, q3, q4, rfl⟩
    simp -implicitDefEqProofs (disch := omega) only [seval, go_sem, q1, q3, q4, hbox, hdl]
    refine cdK_d (fun hc => ?_) (fun hc => ?_)
    · have hlt : i < ks.length := by omega
      have hx := ndL_get hlt
      have htk := take_succ_D ks (i := i) default hlt
      have hmem : ks.getD i default ∈ ks := getD_mem hlt
      generalize ks.getD i default = x at *
      have hbx := b6 x hmem
      have hdx := depN_le k x hbx
      have hd1 : depL (ks.take i) ≤ k := depL_le (depN_le k) _ fun y hy => b6 y (List.mem_of_mem_take hy)
      have hd2 : depL (ks.take (i + 1)) = max (depL (ks.take i)) (depN x) := by rw [htk, depL_snoc]
      cases x with
      | mk kd' ns' ks' d' r' s' t' =>
        rw [ndD_mk] at hx
        simp -implicitDefEqProofs (disch := omega) only [seval, go_sem, q1, q3, q4, hbox, hdl, hx]
        refine ih _ hbx (by omega) ?_
        simp -implicitDefEqProofs (disch := omega) only [seval, go_sem, q1, q3, q4, hbox, hdl, hx]
        refine cdK_d (fun hc2 => ?_) (fun hc2 => ?_)
        · simp -implicitDefEqProofs (disch := omega) only [seval, go_sem, q1, q3, q4, hbox, hdl, hx]
          refine ⟨n - 1, by omega, i + 1, by omega, q1, ?_, rfl, rfl⟩
          rw [hd2, Nat.max_eq_right (by omega)]; rfl
        · simp -implicitDefEqProofs (disch := omega) only [seval, go_sem, q1, q3, q4, hbox, hdl, hx]
          refine ⟨n - 1, by omega, i + 1, by omega, q1, ?_, rfl, rfl⟩
          rw [hd2, Nat.max_eq_left (by omega)]; exact q3
    · have e : i = ks.length := by omega
      subst e
      rw [List.take_length] at q3
      have hd1 : depL ks ≤ k := depL_le (depN_le k) _ b6
      have he : depN (.mk kd ns ks d r s t) = depL ks + 1 := by rw [depN]
      simp -implicitDefEqProofs (disch := omega) only [seval, go_sem, q1, q3, q4, hbox, hdl, he]
      exact ⟨.lit _, hkp⟩
theorem allL_append (a b : List Nd) : allL (a ++ b) = allL a ++ allL b := by
  induction a with
  | nil => simp [allL]
  | cons x l ih => rw [List.cons_append, allL, ih, allL, List.append_assoc]
set_option maxRecDepth 8000 in
set_option maxHeartbeats 1000000 in
theorem c_All {B : Nat} : ∀ (k : Nat) (n : Nd) {S : TS} {K : TV → TS → Prop}, NdB B k n → (allN n).length ≤ 1000000000000 → K (.sl .none 7 (ndL (allN n))) S → TCall env 157 [ndV n] S K
  | 0, n, S, K, h, _, _ => h.elim
  | k + 1, .mk kd ns ks d r s t, S, K, hB, hk, hK => by
    refine TCall.toPureD (r := .sl .none 7 (ndL (allN (.mk kd ns ks d r s t)))) ?_ hK
    obtain ⟨b1, b2, b3, b4, b5, b6⟩ := hB
    have hdl := ndL_len ks
    have ih := @c_All B k
    have hal : allN (.mk kd ns ks d r s t) = .mk kd ns ks d r s t :: allL ks := by rw [allN]
    rw [hal, List.length_cons] at hk
    rw [ndV_mk]
    refine TCall.w 23 [.tmp 2] Tryz.func157 rfl rfl rfl rfl (by kernel_rfl) rfl ?_
    simp -implicitDefEqProofs (disch := omega) only [seval, go_sem]
    generalize hS1 : S.push _ = S1
    have hbox : S1.objs S.n = .cells 163 [.lit (w8 kd), .sl .none 1 (dT ns), .sl .none 7 (ndL ks), .sl .none 1 (dB d), .lit (.bool r), .lit (wF s), .lit (.string (st t))] := by rw [← hS1]; exact push_self _ _
    have hkp : Keep S S1 := by rw [← hS1]; exact Keep.push _ _
    have hn1 : S1.n = S.n + 1 := by rw [← hS1]; rfl
    refine loW_inv (fun n T S' => ∃ (i : Nat) (g : Tag), n + i = ks.length ∧ T 1 = .ptr S.n 0 ∧ T 3 = .sl g 7 (ndL (.mk kd ns ks d r s t :: allL (ks.take i))) ∧ T 4 = .lit (.int .i64 (i : Int)) ∧ S'.objs S.n = .cells 163 [.lit (w8 kd), .sl .none 1 (dT ns), .sl .none 7 (ndL ks), .sl .none 1 (dB d), .lit (.bool r), .lit (wF s), .lit (.string (st t))] ∧
      (g = .full ∨ ∃ j, g = .own j ∧ S'.objs j = .lin ∧ S.n < j ∧ j < S'.n) ∧ S.n < S'.n ∧ Keep S S') ks.length ?_ ?_
    · refine ⟨0, .full, rfl, rfl, ?_, rfl, hbox, .inl rfl, by omega, hkp⟩
      rw [ndL, ndD_mk, List.take_zero, allL, ndL]; rfl
    rintro n T S2 ⟨i, g, hi, q1, q3, q4, hbx, hg, hn2, hkp2⟩
    simp -implicitDefEqProofs (disch := omega) only [seval, go_sem, q1, q3, q4, hbx, hdl]
    refine cdK_d (fun hc => ?_) (fun hc => ?_)
    · have hlt : i < ks.length := by omega
      have hx := ndL_get hlt
      have htk := take_succ_D ks (i := i) default hlt
      have hmem : ks.getD i default ∈ ks := getD_mem hlt
      generalize ks.getD i default = x at *
      have hbx' := b6 x hmem
      have hsn : allL (ks.take (i + 1)) = allL (ks.take i) ++ allN x := by rw [htk, allL_snoc]
      have hle : (allL (ks.take (i + 1))).length ≤ (allL ks).length := by
        rw [← List.take_append_drop (i + 1) ks, allL_append, List.length_append, List.take_append_drop]; omega
      rw [hsn, List.length_append] at hle
      have hdl2 := ndL_len (.mk kd ns ks d r s t :: allL (ks.take i))
      have hdl3 := ndL_len (allN x)
      rw [List.length_cons] at hdl2
      cases x with
      | mk kd' ns' ks' d' r' s' t' =>
        rw [ndD_mk] at hx
        simp -implicitDefEqProofs (disch := omega) only [seval, go_sem, q1, q3, q4, hbx, hdl, hx]
        refine ih _ hbx' (by omega) ?_
        rcases hg with rfl | ⟨j, rfl, hj, hj1, hj2⟩
        · simp -implicitDefEqProofs (disch := omega) only [seval, go_sem, q1, q3, q4, hbx, hdl, hx, hdl2, hdl3]
          refine ⟨rfl, ?_⟩
          refine ⟨n - 1, by omega, i + 1, .own S2.n, by omega, q1, ?_, rfl, psh_old0 hbx hn2, .inr ⟨S2.n, rfl, push_self _ _, hn2, Nat.lt_succ_self _⟩, by rw [TS.push_n]; omega, hkp2.push' _⟩
          rw [hsn, ndL, ndL, List.cons_append, ndL_app]; rfl
        · simp -implicitDefEqProofs (disch := omega) only [seval, go_sem, q1, q3, q4, hbx, hdl, hx, hdl2, hdl3, hj]
          refine ⟨rfl, ?_⟩
          refine ⟨n - 1, by omega, i + 1, .own S2.n, by omega, q1, ?_, rfl, psh_old0 (S := TS.set _ _ _) ((st_old _ (by omega)).trans hbx) hn2, .inr ⟨S2.n, rfl, push_self (TS.set _ _ _) _, hn2, Nat.lt_succ_self _⟩, Nat.lt_succ_of_lt hn2, (hkp2.set (by omega) _).push' _⟩
          rw [hsn, ndL, ndL, List.cons_append, ndL_app]; rfl
    · have e : i = ks.length := by omega
      subst e
      rw [List.take_length] at q3
      simp -implicitDefEqProofs (disch := omega) only [seval, go_sem, q1, q3, q4, hbx, hdl]
      refine ⟨.sl .none 7 (ndL (allN (.mk kd ns ks d r s t))), ?_, .slN _ _ _, hkp2⟩
      rw [hal]
      exact .sl _ _ _
theorem str_leq {P : Program} {ty : TypeId} {a b : Bs} : tvBin P .leq ty (.string (st a)) (.string (st b)) = some (.bool (ltS a b || decide (a = b))) := by
  simp only [tvBin, tvStr, eqS_ok]
  rw [st_list, st_list, ltS_ok]
attribute [go_sem] str_leq
def namesR (ns : List Bs) : Bool := (List.range ns.length).all fun i => nameR (ns.getD i []) && (decide (i = 0) || !(ltS (ns.getD i []) (ns.getD (i - 1) []) || decide (ns.getD i [] = ns.getD (i - 1) [])))
/-- Is one of the names as it may be, and behind the one ahead? -/
def nameOk (ns : List Bs) (i : Nat) : Bool := nameR (ns.getD i []) && (decide (i = 0) || !(ltS (ns.getD i []) (ns.getD (i - 1) []) || decide (ns.getD i [] = ns.getD (i - 1) [])))
theorem namesR_no {ns : List Bs} {i : Nat} (h : i < ns.length) (hn : nameOk ns i = false) : namesR ns = false := by
  unfold namesR
  rw [List.all_eq_false]
  exact ⟨i, List.mem_range.2 h, by rw [show (nameR (ns.getD i []) && (decide (i = 0) || !(ltS (ns.getD i []) (ns.getD (i - 1) []) || decide (ns.getD i [] = ns.getD (i - 1) [])))) = false from hn]; decide⟩
theorem namesR_yes {ns : List Bs} (h : ∀ i, i < ns.length → nameOk ns i = true) : namesR ns = true := List.all_eq_true.2 fun i hi => h i (List.mem_range.1 hi)
mutual
def formN : Nd → Bool
  | .mk k ns ks d r s t =>
    if k.toNat = 1 then !(decide (0 < d.length) || r || decide ((bitsF s).toNat ≠ 0)) && !decide (0 < t.length) && decide (ns.length = ks.length) && namesR ns && formL ks
    else if k.toNat = 2 then !decide (0 < ns.length + ks.length) && !decide (0 < t.length) && decide (d.length ≤ 1024)
    else if k.toNat = 3 then !decide (0 < ns.length + ks.length) && !(decide (0 < d.length) || r || decide ((bitsF s).toNat ≠ 0)) && decide (0 < t.length) && decide (t.length ≤ 1024)
    else false
def formL : List Nd → Bool
  | [] => true
  | n :: l => formN n && formL l
end
theorem formL_all : ∀ l : List Nd, formL l = l.all formN
  | [] => by simp [formL]
  | n :: l => by rw [formL, formL_all l, List.all_cons]
set_option maxRecDepth 8000 in
set_option maxHeartbeats 1000000 in
theorem c_form {B : Nat} (hBB : B ≤ 1000000) : ∀ (k : Nat) (n : Nd) {S : TS} {K : TV → TS → Prop}, NdB B k n → K (.lit (.bool (formN n))) S → TCall env 155 [ndV n] S K
  | 0, n, S, K, h, _ => h.elim
  | k + 1, .mk kd ns ks d r s t, S, K, hB, hK => by
    refine TCall.toPure (r := .lit (.bool (formN (.mk kd ns ks d r s t)))) ?_ hK
    obtain ⟨b1, b2, b3, b4, b5, b6⟩ := hB
    have hdl := ndL_len ks
    have hdt := dT_len ns
    have hdb := dB_len d
    have ih := @c_form B hBB k
    rw [ndV_mk]
    refine TCall.w 122 [.tmp 2] Tryz.func155 rfl rfl rfl rfl (by kernel_rfl) rfl ?_
    by_cases k1 : kd.toNat = 1
    · have hf1 : ∀ r, formN (.mk kd ns ks d r s t) = (!(decide (0 < d.length) || r || decide ((bitsF s).toNat ≠ 0)) && !decide (0 < t.length) && decide (ns.length = ks.length) && namesR ns && formL ks) := fun r => by rw [formN, if_pos k1]
      by_cases hd : 0 < d.length
      · have hfile : (decide (0 < d.length) || r || decide ((bitsF s).toNat ≠ 0)) = true := by rw [decide_eq_true hd]; rfl
        simp -implicitDefEqProofs (disch := omega) only [seval, go_sem, hdl, hdt, hdb]
        rw [hf1, hfile]
        exact ⟨.lit _, Keep.push _ _⟩
      have hd0 : d.length = 0 := by omega
      cases r with
      | true =>
        have hfile : (decide (0 < d.length) || true || decide ((bitsF s).toNat ≠ 0)) = true := by simp
        simp -implicitDefEqProofs (disch := omega) only [seval, go_sem, hdl, hdt, hdb]
        rw [hf1, hfile]
        exact ⟨.lit _, Keep.push _ _⟩
      | false =>
        simp -implicitDefEqProofs (disch := omega) only [seval, go_sem, hdl, hdt, hdb]
        refine c_Bits ?_
        by_cases hb : (bitsF s).toNat = 0
        · have hfile : (decide (0 < d.length) || false || decide ((bitsF s).toNat ≠ 0)) = false := by rw [decide_eq_false hd]; simp [hb]
          simp -implicitDefEqProofs (disch := omega) only [seval, go_sem, hdl, hdt, hdb]
          by_cases hl : 0 < t.length
          · simp -implicitDefEqProofs (disch := omega) only [seval, go_sem, hdl, hdt, hdb]
            rw [hf1, hfile, decide_eq_true hl]
            exact ⟨.lit _, Keep.push _ _⟩
          simp -implicitDefEqProofs (disch := omega) only [seval, go_sem, hdl, hdt, hdb]
          have hbx : (S.push (.cells 163 [.lit (w8 kd), .sl .none 1 (dT ns), .sl .none 7 (ndL ks), .sl .none 1 (dB d), .lit (.bool false), .lit (wF s), .lit (.string (st t))])).objs S.n = .cells 163 [.lit (w8 kd), .sl .none 1 (dT ns), .sl .none 7 (ndL ks), .sl .none 1 (dB d), .lit (.bool false), .lit (wF s), .lit (.string (st t))] := push_self _ _
          have hkp : Keep S (S.push (.cells 163 [.lit (w8 kd), .sl .none 1 (dT ns), .sl .none 7 (ndL ks), .sl .none 1 (dB d), .lit (.bool false), .lit (wF s), .lit (.string (st t))])) := Keep.push _ _
          generalize S.push (.cells 163 [.lit (w8 kd), .sl .none 1 (dT ns), .sl .none 7 (ndL ks), .sl .none 1 (dB d), .lit (.bool false), .lit (wF s), .lit (.string (st t))]) = S1 at *
          have hfm : formN (.mk kd ns ks d false s t) = (namesR ns && ks.all formN) := by
            rw [hf1, hfile, decide_eq_false hl, decide_eq_true b1, formL_all]; rfl
          refine loW_inv (fun n T S' => ∃ i : Nat, n + i = ks.length ∧ T 1 = .ptr S.n 0 ∧ T 6 = .lit (.int .i64 (i : Int)) ∧ (∀ j, j < i → nameOk ns j = true) ∧ (ks.take i).all formN = true ∧ S' = S1) ks.length ?_ ?_
          · exact ⟨0, rfl, rfl, rfl, (fun j hj => absurd hj (Nat.not_lt_zero _)), rfl, rfl⟩
          rintro n T S2 ⟨i, hi, q1, q6, hna, hka, rfl⟩
          simp -implicitDefEqProofs (disch := omega) only [seval, go_sem, q1, q6, hbx, hdl, hdt]
          refine cdK_d (fun hc => ?_) (fun hc => ?_)
          · have hlt : i < ks.length := by omega
            have hltn : i < ns.length := by omega
            have hx := ndL_get hlt
            have hy := dT_get hltn
            have hno := all_take_no (l := ks) (p := formN) (d := default) hlt
            have hyes := all_take_yes (l := ks) (p := formN) (d := default) hlt hka
            have hmem : ks.getD i default ∈ ks := getD_mem hlt
            have hmn : ns.getD i [] ∈ ns := getD_mem hltn
            have hbad : nameOk ns i = false → formN (.mk kd ns ks d false s t) = false := fun h => by rw [hfm, namesR_no hltn h]; rfl
            generalize hxe : ks.getD i default = x at *
            have hbx' := b6 x hmem
            cases x with
            | mk kd' ns' ks' d' r' s' t' =>
              rw [ndD_mk] at hx
              simp -implicitDefEqProofs (disch := omega) only [seval, go_sem, q1, q6, hbx, hdl, hdt, hx, hy]
              refine drW_at [(0, 0), (1, 0), (2, 0), (3, 0), (4, 0), (5, 2), (6, 0), (7, 0), (8, 0), (9, 0), (10, 0), (11, 0), (12, 0), (13, 0), (14, 0), (15, 0), (16, 0), (17, 0), (18, 0), (19, 0), (20, 0), (21, 0), (22, 0), (23, 0), (24, 0), (25, 0), (26, 0), (27, 0), (28, 0), (29, 0), (30, 0), (31, 2), (32, 0), (33, 0)] followsN (by kernel_rfl) ?_
              simp -implicitDefEqProofs (disch := omega) only [seval, go_sem, q1, q6, hbx, hdl, hdt, hx, hy]
              refine c_nameR (s := ns.getD i []) ?_ (by have := b5 _ hmn; omega)
              cases hnr : nameR (ns.getD i []) with
              | false =>
                simp -implicitDefEqProofs (disch := omega) only [seval, go_sem, q1, q6, hbx, hdl, hdt, hx, hy]
                rw [hbad (by rw [nameOk, hnr]; rfl)]
                exact ⟨.lit _, hkp⟩
              | true =>
                by_cases hi0 : i = 0
                · have hok : nameOk ns i = true := by rw [nameOk, hnr, decide_eq_true hi0]; rfl
                  simp -implicitDefEqProofs (disch := omega) only [seval, go_sem, q1, q6, hbx, hdl, hdt, hx, hy]
                  refine ih _ hbx' ?_
                  cases hfx : formN (.mk kd' ns' ks' d' r' s' t') with
                  | false =>
                    simp -implicitDefEqProofs (disch := omega) only [seval, go_sem, q1, q6, hbx, hdl, hdt, hx, hy]
                    rw [hfm, hno hfx, Bool.and_false]
                    exact ⟨.lit _, hkp⟩
                  | true =>
                    simp -implicitDefEqProofs (disch := omega) only [seval, go_sem, q1, q6, hbx, hdl, hdt, hx, hy]
                    exact ⟨n - 1, by omega, i + 1, by omega, q1, rfl, (fun j hj => by
                      by_cases e : j = i
                      · rw [e]; exact hok
                      · exact hna j (by omega)), hyes hfx, rfl⟩
                · have hlp : i - 1 < ns.length := by omega
                  have hz := dT_get hlp
                  have hco : nameOk ns i = !(ltS (ns.getD i []) (ns.getD (i - 1) []) || decide (ns.getD i [] = ns.getD (i - 1) [])) := by rw [nameOk, hnr, decide_eq_false hi0]; rfl
                  cases hlq : (ltS (ns.getD i []) (ns.getD (i - 1) []) || decide (ns.getD i [] = ns.getD (i - 1) [])) with
                  | true =>
                    simp -implicitDefEqProofs (disch := omega) only [seval, go_sem, q1, q6, hbx, hdl, hdt, hx, hy, hz, hlq]
                    rw [hbad (by rw [hco, hlq]; rfl)]
                    exact ⟨.lit _, hkp⟩
                  | false =>
                    have hok : nameOk ns i = true := by rw [hco, hlq]; rfl
                    simp -implicitDefEqProofs (disch := omega) only [seval, go_sem, q1, q6, hbx, hdl, hdt, hx, hy, hz, hlq]
                    refine ih _ hbx' ?_
                    cases hfx : formN (.mk kd' ns' ks' d' r' s' t') with
                    | false =>
                      simp -implicitDefEqProofs (disch := omega) only [seval, go_sem, q1, q6, hbx, hdl, hdt, hx, hy]
                      rw [hfm, hno hfx, Bool.and_false]
                      exact ⟨.lit _, hkp⟩
                    | true =>
                      simp -implicitDefEqProofs (disch := omega) only [seval, go_sem, q1, q6, hbx, hdl, hdt, hx, hy]
                      exact ⟨n - 1, by omega, i + 1, by omega, q1, rfl, (fun j hj => by
                        by_cases e : j = i
                        · rw [e]; exact hok
                        · exact hna j (by omega)), hyes hfx, rfl⟩
          · have e : i = ks.length := by omega
            subst e
            rw [List.take_length] at hka
            simp -implicitDefEqProofs (disch := omega) only [seval, go_sem, q1, q6, hbx, hdl, hdt]
            rw [hfm, hka, namesR_yes (fun j hj => hna j (by omega))]
            exact ⟨.lit _, hkp⟩
        · have hfile : (decide (0 < d.length) || false || decide ((bitsF s).toNat ≠ 0)) = true := by rw [decide_eq_true (by omega : (bitsF s).toNat ≠ 0)]; simp
          simp -implicitDefEqProofs (disch := omega) only [seval, go_sem, hdl, hdt, hdb]
          rw [hf1, hfile]
          exact ⟨.lit _, Keep.push _ _⟩
    by_cases k2 : kd.toNat = 2
    · have hf2 : ∀ r, formN (.mk kd ns ks d r s t) = (!decide (0 < ns.length + ks.length) && !decide (0 < t.length) && decide (d.length ≤ 1024)) := fun r => by rw [formN, if_neg k1, if_pos k2]
      by_cases hd : 0 < d.length
      · have hfile : (decide (0 < d.length) || r || decide ((bitsF s).toNat ≠ 0)) = true := by rw [decide_eq_true hd]; rfl
        simp -implicitDefEqProofs (disch := omega) only [seval, go_sem, hdl, hdt, hdb]
        by_cases hr : 0 < ns.length + ks.length
        · simp -implicitDefEqProofs (disch := omega) only [seval, go_sem, hdl, hdt, hdb]
          rw [hf2, decide_eq_true hr]
          exact ⟨.lit _, Keep.push _ _⟩
        by_cases hl : 0 < t.length
        · simp -implicitDefEqProofs (disch := omega) only [seval, go_sem, hdl, hdt, hdb]
          rw [hf2, decide_eq_true hl, decide_eq_false hr]
          exact ⟨.lit _, Keep.push _ _⟩
        by_cases hq : d.length ≤ 1024
        · simp -implicitDefEqProofs (disch := omega) only [seval, go_sem, hdl, hdt, hdb]
          rw [hf2, decide_eq_false hl, decide_eq_false hr, decide_eq_true hq]
          exact ⟨.lit _, Keep.push _ _⟩
        by_cases hd2 : d.length = 0
        · exfalso; omega
        simp -implicitDefEqProofs (disch := omega) only [seval, go_sem, hdl, hdt, hdb]
        rw [hf2, decide_eq_false hl, decide_eq_false hr, decide_eq_false hq]
        exact ⟨.lit _, Keep.push _ _⟩
      have hd0 : d.length = 0 := by omega
      cases r with
      | true =>
        have hfile : (decide (0 < d.length) || true || decide ((bitsF s).toNat ≠ 0)) = true := by simp
        simp -implicitDefEqProofs (disch := omega) only [seval, go_sem, hdl, hdt, hdb]
        by_cases hr : 0 < ns.length + ks.length
        · simp -implicitDefEqProofs (disch := omega) only [seval, go_sem, hdl, hdt, hdb]
          rw [hf2, decide_eq_true hr]
          exact ⟨.lit _, Keep.push _ _⟩
        by_cases hl : 0 < t.length
        · simp -implicitDefEqProofs (disch := omega) only [seval, go_sem, hdl, hdt, hdb]
          rw [hf2, decide_eq_true hl, decide_eq_false hr]
          exact ⟨.lit _, Keep.push _ _⟩
        by_cases hq : d.length ≤ 1024
        · simp -implicitDefEqProofs (disch := omega) only [seval, go_sem, hdl, hdt, hdb]
          rw [hf2, decide_eq_false hl, decide_eq_false hr, decide_eq_true hq]
          exact ⟨.lit _, Keep.push _ _⟩
        exfalso; omega
      | false =>
        simp -implicitDefEqProofs (disch := omega) only [seval, go_sem, hdl, hdt, hdb]
        refine c_Bits ?_
        by_cases hb : (bitsF s).toNat = 0
        · have hfile : (decide (0 < d.length) || false || decide ((bitsF s).toNat ≠ 0)) = false := by rw [decide_eq_false hd]; simp [hb]
          simp -implicitDefEqProofs (disch := omega) only [seval, go_sem, hdl, hdt, hdb]
          by_cases hr : 0 < ns.length + ks.length
          · simp -implicitDefEqProofs (disch := omega) only [seval, go_sem, hdl, hdt, hdb]
            rw [hf2, decide_eq_true hr]
            exact ⟨.lit _, Keep.push _ _⟩
          by_cases hl : 0 < t.length
          · simp -implicitDefEqProofs (disch := omega) only [seval, go_sem, hdl, hdt, hdb]
            rw [hf2, decide_eq_true hl, decide_eq_false hr]
            exact ⟨.lit _, Keep.push _ _⟩
          by_cases hq : d.length ≤ 1024
          · simp -implicitDefEqProofs (disch := omega) only [seval, go_sem, hdl, hdt, hdb]
            rw [hf2, decide_eq_false hl, decide_eq_false hr, decide_eq_true hq]
            exact ⟨.lit _, Keep.push _ _⟩
          exfalso; omega
        · have hfile : (decide (0 < d.length) || false || decide ((bitsF s).toNat ≠ 0)) = true := by rw [decide_eq_true (by omega : (bitsF s).toNat ≠ 0)]; simp
          simp -implicitDefEqProofs (disch := omega) only [seval, go_sem, hdl, hdt, hdb]
          by_cases hr : 0 < ns.length + ks.length
          · simp -implicitDefEqProofs (disch := omega) only [seval, go_sem, hdl, hdt, hdb]
            rw [hf2, decide_eq_true hr]
            exact ⟨.lit _, Keep.push _ _⟩
          by_cases hl : 0 < t.length
          · simp -implicitDefEqProofs (disch := omega) only [seval, go_sem, hdl, hdt, hdb]
            rw [hf2, decide_eq_true hl, decide_eq_false hr]
            exact ⟨.lit _, Keep.push _ _⟩
          by_cases hq : d.length ≤ 1024
          · simp -implicitDefEqProofs (disch := omega) only [seval, go_sem, hdl, hdt, hdb]
            rw [hf2, decide_eq_false hl, decide_eq_false hr, decide_eq_true hq]
            exact ⟨.lit _, Keep.push _ _⟩
          exfalso; omega
    by_cases k3 : kd.toNat = 3
    · have hf3 : ∀ r, formN (.mk kd ns ks d r s t) = (!decide (0 < ns.length + ks.length) && !(decide (0 < d.length) || r || decide ((bitsF s).toNat ≠ 0)) && decide (0 < t.length) && decide (t.length ≤ 1024)) := fun r => by rw [formN, if_neg k1, if_neg k2, if_pos k3]
      by_cases hd : 0 < d.length
      · have hfile : (decide (0 < d.length) || r || decide ((bitsF s).toNat ≠ 0)) = true := by rw [decide_eq_true hd]; rfl
        simp -implicitDefEqProofs (disch := omega) only [seval, go_sem, hdl, hdt, hdb]
        by_cases hr : 0 < ns.length + ks.length
        · simp -implicitDefEqProofs (disch := omega) only [seval, go_sem, hdl, hdt, hdb]
          rw [hf3, decide_eq_true hr]
          exact ⟨.lit _, Keep.push _ _⟩
        simp -implicitDefEqProofs (disch := omega) only [seval, go_sem, hdl, hdt, hdb]
        rw [hf3, hfile, decide_eq_false hr]
        exact ⟨.lit _, Keep.push _ _⟩
      have hd0 : d.length = 0 := by omega
      cases r with
      | true =>
        have hfile : (decide (0 < d.length) || true || decide ((bitsF s).toNat ≠ 0)) = true := by simp
        simp -implicitDefEqProofs (disch := omega) only [seval, go_sem, hdl, hdt, hdb]
        by_cases hr : 0 < ns.length + ks.length
        · simp -implicitDefEqProofs (disch := omega) only [seval, go_sem, hdl, hdt, hdb]
          rw [hf3, decide_eq_true hr]
          exact ⟨.lit _, Keep.push _ _⟩
        simp -implicitDefEqProofs (disch := omega) only [seval, go_sem, hdl, hdt, hdb]
        rw [hf3, hfile, decide_eq_false hr]
        exact ⟨.lit _, Keep.push _ _⟩
      | false =>
        simp -implicitDefEqProofs (disch := omega) only [seval, go_sem, hdl, hdt, hdb]
        refine c_Bits ?_
        by_cases hb : (bitsF s).toNat = 0
        · have hfile : (decide (0 < d.length) || false || decide ((bitsF s).toNat ≠ 0)) = false := by rw [decide_eq_false hd]; simp [hb]
          simp -implicitDefEqProofs (disch := omega) only [seval, go_sem, hdl, hdt, hdb]
          by_cases hr : 0 < ns.length + ks.length
          · simp -implicitDefEqProofs (disch := omega) only [seval, go_sem, hdl, hdt, hdb]
            rw [hf3, decide_eq_true hr]
            exact ⟨.lit _, Keep.push _ _⟩
          by_cases hl : 0 < t.length
          · by_cases hq : t.length ≤ 1024
            · simp -implicitDefEqProofs (disch := omega) only [seval, go_sem, hdl, hdt, hdb]
              rw [hf3, hfile, decide_eq_true hl, decide_eq_false hr, decide_eq_true hq]
              exact ⟨.lit _, Keep.push _ _⟩
            simp -implicitDefEqProofs (disch := omega) only [seval, go_sem, hdl, hdt, hdb]
            rw [hf3, hfile, decide_eq_true hl, decide_eq_false hr, decide_eq_false hq]
            exact ⟨.lit _, Keep.push _ _⟩
          simp -implicitDefEqProofs (disch := omega) only [seval, go_sem, hdl, hdt, hdb]
          rw [hf3, hfile, decide_eq_false hl, decide_eq_false hr]
          exact ⟨.lit _, Keep.push _ _⟩
        · have hfile : (decide (0 < d.length) || false || decide ((bitsF s).toNat ≠ 0)) = true := by rw [decide_eq_true (by omega : (bitsF s).toNat ≠ 0)]; simp
          simp -implicitDefEqProofs (disch := omega) only [seval, go_sem, hdl, hdt, hdb]
          by_cases hr : 0 < ns.length + ks.length
          · simp -implicitDefEqProofs (disch := omega) only [seval, go_sem, hdl, hdt, hdb]
            rw [hf3, decide_eq_true hr]
            exact ⟨.lit _, Keep.push _ _⟩
          simp -implicitDefEqProofs (disch := omega) only [seval, go_sem, hdl, hdt, hdb]
          rw [hf3, hfile, decide_eq_false hr]
          exact ⟨.lit _, Keep.push _ _⟩
    have hf4 : ∀ r, formN (.mk kd ns ks d r s t) = false := fun r => by rw [formN, if_neg k1, if_neg k2, if_neg k3]
    by_cases hd : 0 < d.length
    · have hfile : (decide (0 < d.length) || r || decide ((bitsF s).toNat ≠ 0)) = true := by rw [decide_eq_true hd]; rfl
      simp -implicitDefEqProofs (disch := omega) only [seval, go_sem, hdl, hdt, hdb]
      rw [hf4]
      exact ⟨.lit _, Keep.push _ _⟩
    have hd0 : d.length = 0 := by omega
    cases r with
    | true =>
      have hfile : (decide (0 < d.length) || true || decide ((bitsF s).toNat ≠ 0)) = true := by simp
      simp -implicitDefEqProofs (disch := omega) only [seval, go_sem, hdl, hdt, hdb]
      rw [hf4]
      exact ⟨.lit _, Keep.push _ _⟩
    | false =>
      simp -implicitDefEqProofs (disch := omega) only [seval, go_sem, hdl, hdt, hdb]
      refine c_Bits ?_
      by_cases hb : (bitsF s).toNat = 0
      · have hfile : (decide (0 < d.length) || false || decide ((bitsF s).toNat ≠ 0)) = false := by rw [decide_eq_false hd]; simp [hb]
        simp -implicitDefEqProofs (disch := omega) only [seval, go_sem, hdl, hdt, hdb]
        rw [hf4]
        exact ⟨.lit _, Keep.push _ _⟩
      · have hfile : (decide (0 < d.length) || false || decide ((bitsF s).toNat ≠ 0)) = true := by rw [decide_eq_true (by omega : (bitsF s).toNat ≠ 0)]; simp
        simp -implicitDefEqProofs (disch := omega) only [seval, go_sem, hdl, hdt, hdb]
        rw [hf4]
        exact ⟨.lit _, Keep.push _ _⟩
-- END form
end Go.Proofs.YtoldjfappfbfbaaGreatDoor
namespace Go.Proofs.YtoldjfappfbfbaaGreatDoor
open Go.RowKit TL
def rightN (n : Nd) : Bool := formN n && decide (depN n ≤ 8) && decide ((allN n).length ≤ 64)
set_option maxRecDepth 8000 in
set_option maxHeartbeats 1000000 in
theorem c_RightN {B k : Nat} {n : Nd} {S : TS} {K : TV → TS → Prop} (h : NdB B k n) (hB : B ≤ 1000000) (hk : k ≤ 8) (hK : K (.lit (.bool (rightN n))) S) : TCall env 130 [ndV n] S K := by
  refine TCall.toPure (r := .lit (.bool (rightN n))) ?_ hK
  have hal : (allN n).length ≤ 1000000000000 := Nat.le_trans (allN_le k n h) (geoN_le hk)
  have hdp := depN_le k n h
  have hdl := ndL_len (allN n)
  cases n with
  | mk kd ns ks d r s t =>
    have hff := @c_form B hB k (.mk kd ns ks d r s t)
    have hdd := @c_Depth B k (.mk kd ns ks d r s t)
    have haa := @c_All B k (.mk kd ns ks d r s t)
    rw [ndV_mk] at *
    refine TCall.w 16 [.tmp 2] Tryz.func130 rfl rfl rfl rfl (by kernel_rfl) rfl ?_
    simp -implicitDefEqProofs (disch := omega) only [seval, go_sem]
    generalize hS1 : S.push _ = S1
    have hbox : S1.objs S.n = .cells 163 [.lit (w8 kd), .sl .none 1 (dT ns), .sl .none 7 (ndL ks), .sl .none 1 (dB d), .lit (.bool r), .lit (wF s), .lit (.string (st t))] := by rw [← hS1]; exact push_self _ _
    have hkp : Keep S S1 := by rw [← hS1]; exact Keep.push _ _
    refine hff h ?_
    unfold rightN
    cases formN (.mk kd ns ks d r s t) with
    | false =>
      simp -implicitDefEqProofs (disch := omega) only [seval, go_sem, hbox]
      exact ⟨.lit _, hkp⟩
    | true =>
      simp -implicitDefEqProofs (disch := omega) only [seval, go_sem, hbox]
      refine hdd h (by omega) ?_
      have h8 : depN (.mk kd ns ks d r s t) ≤ 8 := by omega
      simp -implicitDefEqProofs (disch := omega) only [seval, go_sem, hbox]
      refine haa h hal ?_
      by_cases h64 : (allN (.mk kd ns ks d r s t)).length ≤ 64
      · rw [decide_eq_true h64]
        simp -implicitDefEqProofs (disch := omega) only [seval, go_sem, hbox, hdl]
        exact ⟨.lit _, hkp⟩
      · rw [decide_eq_false h64]
        simp -implicitDefEqProofs (disch := omega) only [seval, go_sem, hbox, hdl]
        exact ⟨.lit _, hkp⟩
mutual
def layN : Nd → Bs
  | .mk k ns ks d r s t => k :: (if k.toNat = 1 then BitVec.ofNat 8 ns.length :: layL ns ks else if k.toNat = 2 then (if r then 1#8 else 0#8) :: (wideL (bitsF s) ++ text2 d) else if k.toNat = 3 then text2 t else [])
def layL : List Bs → List Nd → Bs
  | _, [] => []
  | ns, n :: l => text2 (ns.headD []) ++ layN n ++ layL ns.tail l
end
theorem layL_snoc : ∀ (ns : List Bs) (l : List Nd) (n : Nd), layL ns (l ++ [n]) = layL ns l ++ (text2 (ns.getD l.length []) ++ layN n)
  | ns, [], n => by cases ns <;> simp [layL]
  | ns, x :: l, n => by
    rw [List.cons_append, layL, layL_snoc, layL]
    cases ns <;> simp
theorem layL_len {B k : Nat} (h : ∀ n, NdB B k n → formN n = true → (layN n).length + 42 ≤ 1100 * (allN n).length) : ∀ (ns : List Bs) (l : List Nd), (∀ s ∈ ns, s.length ≤ 40) → (∀ x ∈ l, NdB B k x) → l.all formN = true → (layL ns l).length ≤ 1100 * (allL l).length
  | _, [], _, _, _ => by simp [layL]
  | ns, n :: l, hn, hl, hf => by
    rw [List.all_cons, Bool.and_eq_true] at hf
    have h1 := h n (hl n (by simp)) hf.1
    have h2 := layL_len h ns.tail l (fun s hs => hn s (List.mem_of_mem_tail hs)) (fun x hx => hl x (List.mem_cons_of_mem _ hx)) hf.2
    have h3 : (ns.headD []).length ≤ 40 := by
      cases ns with
      | nil => simp
      | cons a b => exact hn a (by simp)
    rw [layL, allL, List.length_append, List.length_append, List.length_append, text2_len]
    omega
theorem layN_len {B : Nat} : ∀ (k : Nat) (n : Nd), NdB B k n → formN n = true → (layN n).length + 42 ≤ 1100 * (allN n).length
  | 0, n, h, _ => h.elim
  | k + 1, .mk kd ns ks d r s t, h, hf => by
    obtain ⟨b1, b2, b3, b4, b5, b6⟩ := h
    rw [formN] at hf
    rw [layN, allN, List.length_cons, List.length_cons]
    by_cases k1 : kd.toNat = 1
    · rw [if_pos k1] at hf ⊢
      rw [Bool.and_eq_true, formL_all] at hf
      have := layL_len (layN_len k) ns ks b5 b6 hf.2
      rw [List.length_cons]; omega
    rw [if_neg k1] at hf ⊢
    by_cases k2 : kd.toNat = 2
    · rw [if_pos k2] at hf ⊢
      rw [Bool.and_eq_true, decide_eq_true_eq] at hf
      rw [List.length_cons, List.length_append, wideL_len, text2_len]; omega
    rw [if_neg k2] at hf ⊢
    by_cases k3 : kd.toNat = 3
    · rw [if_pos k3] at hf ⊢
      rw [Bool.and_eq_true, decide_eq_true_eq] at hf
      rw [text2_len]; omega
    rw [if_neg k3, List.length_nil]; omega
theorem layN_1 {k : BitVec 8} {ns : List Bs} {ks : List Nd} {d : Bs} {r : Bool} {s : BitVec 64} {t : Bs} (h : k.toNat = 1) : layN (.mk k ns ks d r s t) = k :: BitVec.ofNat 8 ns.length :: layL ns ks := by rw [layN, if_pos h]
theorem layN_2 {k : BitVec 8} {ns : List Bs} {ks : List Nd} {d : Bs} {r : Bool} {s : BitVec 64} {t : Bs} (h : k.toNat = 2) : layN (.mk k ns ks d r s t) = k :: (if r then 1#8 else 0#8) :: (wideL (bitsF s) ++ text2 d) := by rw [layN, if_neg (by omega), if_pos h]
theorem layN_3 {k : BitVec 8} {ns : List Bs} {ks : List Nd} {d : Bs} {r : Bool} {s : BitVec 64} {t : Bs} (h : k.toNat = 3) : layN (.mk k ns ks d r s t) = k :: text2 t := by rw [layN, if_neg (by omega), if_neg (by omega), if_pos h]
theorem layN_0 {k : BitVec 8} {ns : List Bs} {ks : List Nd} {d : Bs} {r : Bool} {s : BitVec 64} {t : Bs} (h1 : k.toNat ≠ 1) (h2 : k.toNat ≠ 2) (h3 : k.toNat ≠ 3) : layN (.mk k ns ks d r s t) = [k] := by rw [layN, if_neg h1, if_neg h2, if_neg h3]
set_option maxRecDepth 8000 in
set_option maxHeartbeats 1000000 in
theorem c_lay {B : Nat} : ∀ (k : Nat) (n : Nd) {S : TS} {K : TV → TS → Prop}, NdB B k n → formN n = true → (allN n).length ≤ 64 → K (.sl .none 1 (dB (layN n))) S → TCall env 132 [ndV n] S K
  | 0, n, S, K, h, _, _, _ => h.elim
  | k + 1, .mk kd ns ks d r s t, S, K, hB, hf, h64, hK => by
    refine TCall.toPureD (r := .sl .none 1 (dB (layN (.mk kd ns ks d r s t)))) ?_ hK
    have hlen := layN_len (k + 1) _ hB hf
    obtain ⟨b1, b2, b3, b4, b5, b6⟩ := hB
    have hdl := ndL_len ks
    have hdt := dT_len ns
    have hdb := dB_len d
    have ih := @c_lay B k
    rw [ndV_mk]
    refine TCall.w 72 [.tmp 2] Tryz.func132 rfl rfl rfl rfl (by kernel_rfl) rfl ?_
    by_cases k1 : kd.toNat = 1
    · rw [layN_1 k1] at hlen ⊢
      rw [formN, if_pos k1, Bool.and_eq_true, formL_all] at hf
      have hfk := hf.2
      rw [List.length_cons, List.length_cons] at hlen
      simp -implicitDefEqProofs (disch := omega) only [seval, go_sem, hdl, hdt, hdb]
      have hbx : ((S.push (.cells 163 [.lit (w8 kd), .sl .none 1 (dT ns), .sl .none 7 (ndL ks), .sl .none 1 (dB d), .lit (.bool r), .lit (wF s), .lit (.string (st t))])).push .lin).objs S.n = .cells 163 [.lit (w8 kd), .sl .none 1 (dT ns), .sl .none 7 (ndL ks), .sl .none 1 (dB d), .lit (.bool r), .lit (wF s), .lit (.string (st t))] := psh_old0 (push_self _ _) (Nat.lt_succ_self _)
      have hbl : ((S.push (.cells 163 [.lit (w8 kd), .sl .none 1 (dT ns), .sl .none 7 (ndL ks), .sl .none 1 (dB d), .lit (.bool r), .lit (wF s), .lit (.string (st t))])).push .lin).objs (S.n + 1) = .lin := push_self (S.push _) _
      have hkp : Keep S ((S.push (.cells 163 [.lit (w8 kd), .sl .none 1 (dT ns), .sl .none 7 (ndL ks), .sl .none 1 (dB d), .lit (.bool r), .lit (wF s), .lit (.string (st t))])).push .lin) := (Keep.push _ _).push' _
      have hn1 : ((S.push (.cells 163 [.lit (w8 kd), .sl .none 1 (dT ns), .sl .none 7 (ndL ks), .sl .none 1 (dB d), .lit (.bool r), .lit (wF s), .lit (.string (st t))])).push .lin).n = S.n + 2 := rfl
      generalize (S.push (.cells 163 [.lit (w8 kd), .sl .none 1 (dT ns), .sl .none 7 (ndL ks), .sl .none 1 (dB d), .lit (.bool r), .lit (wF s), .lit (.string (st t))])).push .lin = S1 at *
      refine loW_inv (fun n T S' => ∃ (i j : Nat), n + i = ks.length ∧ T 1 = .ptr S.n 0 ∧ T 3 = .sl (.own j) 1 (dB (kd :: BitVec.ofNat 8 ns.length :: layL ns (ks.take i))) ∧ T 4 = .lit (.int .i64 (i : Int)) ∧ S'.objs S.n = .cells 163 [.lit (w8 kd), .sl .none 1 (dT ns), .sl .none 7 (ndL ks), .sl .none 1 (dB d), .lit (.bool r), .lit (wF s), .lit (.string (st t))] ∧
        S'.objs j = .lin ∧ S.n < j ∧ j < S'.n ∧ Keep S S') ks.length ?_ ?_
      · refine ⟨0, S.n + 1, rfl, rfl, ?_, rfl, hbx, hbl, by omega, by omega, hkp⟩
        rw [List.take_zero, layL]; rfl
      rintro n T S2 ⟨i, j, hi, q1, q3, q4, hb2, hj, hj1, hj2, hk2⟩
      simp -implicitDefEqProofs (disch := omega) only [seval, go_sem, q1, q3, q4, hb2, hdt]
      refine cdK_d (fun hc => ?_) (fun hc => ?_)
      · have hlt : i < ks.length := by omega
        have hltn : i < ns.length := by omega
        have hx := ndL_get hlt
        have hy := dT_get hltn
        have htk := take_succ_D ks (i := i) default hlt
        have hmem : ks.getD i default ∈ ks := getD_mem hlt
        have hmn : ns.getD i [] ∈ ns := getD_mem hltn
        have h40 := b5 _ hmn
        have hff : formN (ks.getD i default) = true := List.all_eq_true.1 hfk _ hmem
        generalize ks.getD i default = x at *
        have hbx' := b6 x hmem
        have hsn : layL ns (ks.take (i + 1)) = layL ns (ks.take i) ++ (text2 (ns.getD i []) ++ layN x) := by
          rw [htk, layL_snoc, List.length_take, Nat.min_eq_left (by omega)]
        have hle : (layL ns (ks.take (i + 1))).length ≤ 1100 * (allL ks).length := by
          refine Nat.le_trans (layL_len (layN_len k) ns (ks.take (i + 1)) b5 (fun y hy => b6 y (List.mem_of_mem_take hy)) (List.all_eq_true.2 fun y hy => List.all_eq_true.1 hfk y (List.mem_of_mem_take hy))) (Nat.mul_le_mul_left _ ?_)
          rw [← List.take_append_drop (i + 1) ks, allL_append, List.length_append, List.take_append_drop]; omega
        have hal : allN (.mk kd ns ks d r s t) = .mk kd ns ks d r s t :: allL ks := by rw [allN]
        rw [hal, List.length_cons] at h64
        rw [hsn, List.length_append, List.length_append] at hle
        have htl := text2_len (ns.getD i [])
        have hxa : (allN x).length ≤ (allL ks).length := by
          have : (allL (ks.take (i + 1))).length ≤ (allL ks).length := by
            rw [← List.take_append_drop (i + 1) ks, allL_append, List.length_append, List.take_append_drop]; omega
          rw [htk, allL_snoc, List.length_append] at this; omega
        have hll : (kd :: BitVec.ofNat 8 ns.length :: layL ns (ks.take i)).length = (layL ns (ks.take i)).length + 2 := rfl
        cases x with
        | mk kd' ns' ks' d' r' s' t' =>
          rw [ndD_mk] at hx
          simp -implicitDefEqProofs (disch := omega) only [seval, go_sem, q1, q3, q4, hb2, hdt, hx, hy, hdl]
          refine c_godownref04_Text ?_
          simp -implicitDefEqProofs (disch := omega) only [seval, go_sem, q1, q3, q4, hb2, hdt, hx, hy, hdl, hj]
          refine ih _ hbx' hff (by omega) ?_
          simp -implicitDefEqProofs (disch := omega) only [seval, go_sem, q1, q3, q4, hb2, hdt, hx, hy, hdl, hj]
          refine ⟨n - 1, by omega, i + 1, S2.n + 2, by omega, q1, ?_, rfl, ?_, push_self (TS.push _ _) _, by omega, Nat.lt_succ_self _, by repeat (first | exact hk2 | refine Keep.push' ?_ _ | refine Keep.set ?_ (by first | omega | (simp only [TS.push_n, TS.set_n]; omega)) _)⟩
          · rw [hsn, ← List.append_assoc, ← List.cons_append, ← List.cons_append, ← List.cons_append, ← List.cons_append, dB_app, dB_app]; rfl
          · exact psh_old0 (S := TS.push _ _) (psh_old0 (S := TS.push _ _) (psh_old0 (S := TS.set _ _ _) ((st_old _ (by omega : S.n ≠ j)).trans hb2) (by show S.n < S2.n; omega)) (by show S.n < S2.n + 1; omega)) (by show S.n < S2.n + 2; omega)
      · have e : i = ks.length := by omega
        subst e
        rw [List.take_length] at q3
        simp -implicitDefEqProofs (disch := omega) only [seval, go_sem, q1, q3, q4, hb2, hdt]
        exact ⟨.sl .none 1 (dB (kd :: BitVec.ofNat 8 ns.length :: layL ns ks)), .sl _ _ _, .slN _ _ _, hk2⟩
    by_cases k2 : kd.toNat = 2
    · rw [layN_2 k2] at hlen ⊢
      rw [formN, if_neg k1, if_pos k2, Bool.and_eq_true, decide_eq_true_eq] at hf
      have hd1 := hf.2
      cases r with
      | true =>
        simp -implicitDefEqProofs (disch := omega) only [seval, go_sem, hdl, hdt, hdb]
        refine c_Bits ?_
        simp -implicitDefEqProofs (disch := omega) only [seval, go_sem, hdl, hdt, hdb]
        refine c_Wide ?_
        simp -implicitDefEqProofs (disch := omega) only [seval, go_sem, hdl, hdt, hdb]
        have hwl := wideL_len (bitsF s)
        refine ⟨by omega, ?_⟩
        refine c_godownref04_Text ?_
        have htl := text2_len d
        simp -implicitDefEqProofs (disch := omega) only [seval, go_sem, hdl, hdt, hdb]
        have he : dB (kd :: (if true = true then 1#8 else 0#8) :: (wideL (bitsF s) ++ text2 d)) = [D.lit (w8 kd)] ++ [D.lit (.int .u8 1)] ++ dB (wideL (bitsF s)) ++ dB (text2 d) := by
          rw [List.append_assoc _ (dB _) (dB _), ← dB_app]; rfl
        refine ⟨.sl .none 1 (dB (kd :: (if true = true then 1#8 else 0#8) :: (wideL (bitsF s) ++ text2 d))), ?_, .slN _ _ _, by repeat (first | exact Keep.push _ _ | refine Keep.push' ?_ _ | refine Keep.set ?_ (by first | omega | (simp only [TS.push_n, TS.set_n]; omega)) _)⟩
        rw [he]
        exact .sl _ _ _
      | false =>
        simp -implicitDefEqProofs (disch := omega) only [seval, go_sem, hdl, hdt, hdb]
        refine c_Bits ?_
        simp -implicitDefEqProofs (disch := omega) only [seval, go_sem, hdl, hdt, hdb]
        refine c_Wide ?_
        simp -implicitDefEqProofs (disch := omega) only [seval, go_sem, hdl, hdt, hdb]
        have hwl := wideL_len (bitsF s)
        refine ⟨by omega, ?_⟩
        refine c_godownref04_Text ?_
        have htl := text2_len d
        simp -implicitDefEqProofs (disch := omega) only [seval, go_sem, hdl, hdt, hdb]
        have he : dB (kd :: (if false = true then 1#8 else 0#8) :: (wideL (bitsF s) ++ text2 d)) = [D.lit (w8 kd)] ++ [D.lit (.int .u8 0)] ++ dB (wideL (bitsF s)) ++ dB (text2 d) := by
          rw [List.append_assoc _ (dB _) (dB _), ← dB_app]; rfl
        refine ⟨.sl .none 1 (dB (kd :: (if false = true then 1#8 else 0#8) :: (wideL (bitsF s) ++ text2 d))), ?_, .slN _ _ _, by repeat (first | exact Keep.push _ _ | refine Keep.push' ?_ _ | refine Keep.set ?_ (by first | omega | (simp only [TS.push_n, TS.set_n]; omega)) _)⟩
        rw [he]
        exact .sl _ _ _
    by_cases k3 : kd.toNat = 3
    · rw [layN_3 k3] at hlen ⊢
      rw [formN, if_neg k1, if_neg k2, if_pos k3, Bool.and_eq_true, decide_eq_true_eq] at hf
      have ht1 := hf.2
      simp -implicitDefEqProofs (disch := omega) only [seval, go_sem, hdl, hdt, hdb]
      refine c_godownref04_Text ?_
      simp -implicitDefEqProofs (disch := omega) only [seval, go_sem, hdl, hdt, hdb]
      have htl := text2_len t
      refine ⟨by omega, ?_⟩
      exact ⟨.sl .none 1 (dB (kd :: text2 t)), .sl _ _ _, .slN _ _ _, by repeat (first | exact Keep.push _ _ | refine Keep.push' ?_ _ | refine Keep.set ?_ (by first | omega | (simp only [TS.push_n, TS.set_n]; omega)) _)⟩
    rw [layN_0 k1 k2 k3]
    simp -implicitDefEqProofs (disch := omega) only [seval, go_sem, hdl, hdt, hdb]
    exact ⟨.sl .none 1 (dB [kd]), .sl _ _ _, .slN _ _ _, Keep.push _ _⟩
def gd1 : Bs := [UInt8.toBitVec 103, UInt8.toBitVec 111, UInt8.toBitVec 100, UInt8.toBitVec 111, UInt8.toBitVec 119, UInt8.toBitVec 110, UInt8.toBitVec 49]
/-- An archive, and the error. -/
def writeN (n : Nd) : Bs × Int := if rightN n = true then (text2 gd1 ++ layN n, 0) else ([], 2)
set_option maxRecDepth 8000 in
set_option maxHeartbeats 1000000 in
theorem c_Write6 {B k : Nat} {n : Nd} {S : TS} {K : TV → TS → Prop} (h : NdB B k n) (hB : B ≤ 1000000) (hk : k ≤ 8) (hK : K (.tup [.sl .none 1 (dB (writeN n).1), .lit (.int .i64 (writeN n).2)]) S) : TCall env 105 [ndV n] S K := by
  refine TCall.toPureD (r := .tup [.sl .none 1 (dB (writeN n).1), .lit (.int .i64 (writeN n).2)]) ?_ hK
  have hlen := layN_len k n h
  have hr := @c_RightN B k n
  have hly := @c_lay B k n
  unfold writeN
  cases n with
  | mk kd ns ks d r s t =>
    rw [ndV_mk] at *
    refine TCall.w 11 [.tmp 2, .tmp 3] Tryz.func105 rfl rfl rfl rfl (by kernel_rfl) rfl ?_
    simp -implicitDefEqProofs (disch := omega) only [seval, go_sem]
    generalize hS1 : S.push _ = S1
    have hbox : S1.objs S.n = .cells 163 [.lit (w8 kd), .sl .none 1 (dT ns), .sl .none 7 (ndL ks), .sl .none 1 (dB d), .lit (.bool r), .lit (wF s), .lit (.string (st t))] := by rw [← hS1]; exact push_self _ _
    have hkp : Keep S S1 := by rw [← hS1]; exact Keep.push _ _
    refine hr h hB hk ?_
    cases hrn : rightN (.mk kd ns ks d r s t) with
    | false =>
      simp -implicitDefEqProofs (disch := omega) only [seval, go_sem]
      exact ⟨.tup [.sl .none 1 (dB []), .lit (.int .i64 2)], .tupF (.cons (.sl0 _ _ _) (.cons (.refl _) .nil)), .tupF (.cons (.slN _ _ _) (.cons (.lit _) .nil)), hkp⟩
    | true =>
      rw [if_pos rfl]
      rw [rightN, Bool.and_eq_true, Bool.and_eq_true, decide_eq_true_eq, decide_eq_true_eq] at hrn
      have hl2 := hlen hrn.1.1
      have h64 := hrn.2
      simp -implicitDefEqProofs (disch := omega) only [seval, go_sem]
      refine drW_at [(1, 0), (0, 1), (2, 2), (3, 2), (4, 0), (5, 0)] followsN (by kernel_rfl) ?_
      simp -implicitDefEqProofs (disch := omega) only [seval, go_sem, hbox]
      refine c_godownref04_Text (s := gd1) ?_ (by show (7:Nat) ≤ _; decide)
      simp -implicitDefEqProofs (disch := omega) only [seval, go_sem, psh_old0 hbox (by rw [← hS1]; exact Nat.lt_succ_self _)]
      refine hly h hrn.1.1 h64 ?_
      simp -implicitDefEqProofs (disch := omega) only [seval, go_sem]
      have htl : (text2 gd1).length = 9 := rfl
      refine c_godownref01_Join ?_
      simp -implicitDefEqProofs (disch := omega) only [seval, go_sem]
      exact ⟨.tup [.sl .none 1 (dB (text2 gd1 ++ layN (.mk kd ns ks d r s t))), .lit (.int .i64 0)], .tupF (.cons (.sl _ _ _) (.cons (.refl _) .nil)), .tupF (.cons (.slN _ _ _) (.cons (.lit _) .nil)), (hkp.push' _).push' _⟩
theorem writeN_len {B k : Nat} {n : Nd} (h : NdB B k n) : (writeN n).1.length ≤ 100000 := by
  unfold writeN
  cases hr : rightN n with
  | false => simp
  | true =>
    rw [rightN, Bool.and_eq_true, Bool.and_eq_true, decide_eq_true_eq, decide_eq_true_eq] at hr
    have := layN_len k n h hr.1.1
    have htl : (text2 gd1).length = 9 := rfl
    rw [if_pos rfl]
    simp only [List.length_append]
    omega
end Go.Proofs.YtoldjfappfbfbaaGreatDoor
namespace Go.Proofs.YtoldjfappfbfbaaGreatDoor
open Go.RowKit TL
/-- What a node is made of. -/
structure Mk where
  up : BitVec 8
  kind : BitVec 8
  name : BitVec 8
  data : Bs
  run : Bool
  stamp : BitVec 64
instance : Inhabited Mk := ⟨⟨0#8, 0#8, 0#8, [], false, 0#64⟩⟩
def mkD (m : Mk) : D := .agg [.lit (w8 m.up), .lit (w8 m.kind), .lit (w8 m.name), .sl 1 (dB m.data), .lit (.bool m.run), .lit (wF m.stamp)]
theorem mkD_mk (m : Mk) : mkD m = .agg [.lit (w8 m.up), .lit (w8 m.kind), .lit (w8 m.name), .sl 1 (dB m.data), .lit (.bool m.run), .lit (wF m.stamp)] := rfl
def mkL (l : List Mk) : List D := l.map mkD
theorem mkL_len (l : List Mk) : (mkL l).length = l.length := List.length_map _
theorem mkL_get {l : List Mk} {i : Nat} (h : i < l.length) : (mkL l).getD i default = mkD (l.getD i default) := by
  rw [mkL, List.getD_eq_getElem?_getD, List.getElem?_map, List.getD_eq_getElem?_getD, List.getElem?_eq_getElem h]; rfl
/-- The kids' loop: names and kids are as many, few enough, each within bounds. -/
structure KdB (B k c : Nat) (ns : List Bs) (ks : List Nd) : Prop where
  e : ns.length = ks.length
  l : ks.length ≤ c
  n : ∀ s ∈ ns, s.length ≤ 40
  k : ∀ x ∈ ks, NdB B k x
theorem KdB.snoc {B k c : Nat} {ns : List Bs} {ks : List Nd} (h : KdB B k c ns ks) {s : Bs} {x : Nd} (hs : s.length ≤ 40) (hx : NdB B k x) : KdB B k (c + 1) (ns ++ [s]) (ks ++ [x]) :=
  ⟨by simp [h.e], by simp; exact h.l, fun y hy => by
    rcases List.mem_append.1 hy with hy | hy
    · exact h.n y hy
    · rw [List.mem_singleton.1 hy]; exact hs, fun y hy => by
    rcases List.mem_append.1 hy with hy | hy
    · exact h.k y hy
    · rw [List.mem_singleton.1 hy]; exact hx⟩
theorem KdB.mono {B k c c' : Nat} {ns : List Bs} {ks : List Nd} (h : KdB B k c ns ks) (hc : c ≤ c') : KdB B k c' ns ks := ⟨h.e, Nat.le_trans h.l hc, h.n, h.k⟩
theorem KdB.nil (B k : Nat) : KdB B k 0 [] [] := ⟨rfl, Nat.le_refl _, (fun s h => by cases h), (fun s h => by cases h)⟩
theorem toPureXD {E : Env} {f : FuncId} {args : List TV} {S : TS} {α : Type} {r : α → TV} {Q : α → Prop} {K : TV → TS → Prop} (h : TCall E f args S fun t S' => ∃ a t', Q a ∧ Dg t t' ∧ Ren S.n [] t' (r a) ∧ Keep S S') (hK : ∀ a, Q a → K (r a) S) : TCall E f args S K := by
  refine TCall.toPureX (r := r) (Q := Q) (fun w0 c w vs hk hv => (h w0 c w vs hk hv).mono ?_) hK
  rintro v w' ⟨t, c1, S1, h1, h2, h3, a, t', h0, h4, h5, h6⟩
  exact ⟨t', c1, S1, h1, h2, h4.ok h3, a, h0, h5, h6⟩
theorem dg_ndV (k : BitVec 8) (s1 s2 s3 : Nat) (g1 g2 g3 : Tag) (r : Bool) (s : BitVec 64) (ns : List Bs) (ks : List Nd) (d t : Bs) (h1 : (g1 = .full ∧ ns = []) ∨ s1 = 1) (h2 : (g2 = .full ∧ ks = []) ∨ s2 = 7) (h3 : (g3 = .full ∧ d = []) ∨ s3 = 1) :
    Dg (.agg [.lit (w8 k), .sl g1 s1 (dT ns), .sl g2 s2 (ndL ks), .sl g3 s3 (dB d), .lit (.bool r), .lit (wF s), .lit (.string (st t))]) (ndV (.mk k ns ks d r s t)) := by
  rw [ndV_mk]
  refine .aggF (.cons (.refl _) (.cons ?_ (.cons ?_ (.cons ?_ (.cons (.refl _) (.cons (.refl _) (.cons (.refl _) .nil)))))))
  · rcases h1 with ⟨rfl, rfl⟩ | rfl
    · exact .sl0 _ _ _
    · exact .sl _ _ _
  · rcases h2 with ⟨rfl, rfl⟩ | rfl
    · rw [ndL]; exact .sl0 _ _ _
    · exact .sl _ _ _
  · rcases h3 with ⟨rfl, rfl⟩ | rfl
    · exact .sl0 _ _ _
    · exact .sl _ _ _
section
variable {S S0 : TS} {ka kb id : Nat} {o : TObj}
theorem two_old (h : S.objs id = o) (h1 : id ≠ ka) (h2 : id ≠ kb) (h3 : id < S.n) : ((((S.set ka .gone).set kb .gone).push .lin).push .lin).objs id = o := psh_old0 (S := TS.push _ _) (psh_old0 (S := TS.set _ _ _) ((st_old _ h2).trans ((st_old _ h1).trans h)) h3) (Nat.lt_succ_of_lt h3)
theorem two_a : ((((S.set ka .gone).set kb .gone).push .lin).push .lin).objs S.n = .lin := psh_old0 (S := TS.push _ _) (push_self (TS.set _ _ _) _) (Nat.lt_succ_self _)
theorem two_b : ((((S.set ka .gone).set kb .gone).push .lin).push .lin).objs (S.n + 1) = .lin := push_self (TS.push _ _) _
theorem two_keep (h : Keep S0 S) (ha : S0.n ≤ ka) (hb : S0.n ≤ kb) : Keep S0 ((((S.set ka .gone).set kb .gone).push .lin).push .lin) := (((h.set ha _).set hb _).push' _).push' _
theorem two_n : ((((S.set ka .gone).set kb .gone).push .lin).push .lin).n = S.n + 2 := rfl
end
theorem loW_invG {E : Env} {N : Nat} {c : Code} {p : Pin c} {Q : Exit → (Nat → TV) → TS → Prop} {T : Nat → TV} {S : TS} (I : Nat → (Nat → TV) → TS → Prop) (n : Nat) (h0 : I n T S) (round : ∀ n T S, I n T S → ∃ S2, Gh S S2 ∧ W E N c (loopK I n Q) T S2) : loW E N c p Q T S :=
  .loop I n h0 fun n T S h => by
    obtain ⟨S2, hg, hw⟩ := round n T S h
    exact (W.gh hg (W_ok hw)).mono fun e _ _ hq => by cases e <;> exact hq
theorem NdB_link {B k : Nat} {d : Bs} (h : d.length ≤ B + 1) : NdB B (k + 1) (.mk 3#8 [] [] [] false 0#64 d) := ⟨rfl, by simp, by simp, h, (fun s h => by cases h), (fun s h => by cases h)⟩
theorem NdB_file {B k : Nat} {d : Bs} {r : Bool} {s : BitVec 64} (h : d.length ≤ B) : NdB B (k + 1) (.mk 2#8 [] [] d r s []) := ⟨rfl, by simp, h, by simp, (fun s h => by cases h), (fun s h => by cases h)⟩
theorem NdB_dir {B k c : Nat} {ns : List Bs} {ks : List Nd} (h : KdB B k c ns ks) (hc : c ≤ 39) : NdB B (k + 1) (.mk 1#8 ns ks [] false 0#64 []) := ⟨h.e, Nat.le_trans h.l hc, by simp, by simp, h.n, h.k⟩
set_option maxRecDepth 8000 in
set_option maxHeartbeats 8000000 in
theorem c_kids {B : Nat} (hB : B ≤ 1000000) {l : List Mk} (hl : l.length ≤ 40) (hd : ∀ m ∈ l, m.data.length ≤ B) : ∀ (k : Nat) {dp at_ : Nat} {g : Tag} {S : TS} {K : TV → TS → Prop}, at_ < l.length → dp + k = 8 → 1 ≤ dp → (∀ n, NdB B (k + 1) n → K (ndV n) S) →
    TCall env 133 [.sl g 6 (mkL l), .lit (.int .i64 (at_ : Int)), .lit (.int .i64 (dp : Int))] S K := by
  intro k
  induction k using Nat.strongRecOn with
  | _ k ih =>
    intro dp at_ g S K hat hk hk1 hK
    refine toPureXD (r := ndV) (Q := NdB B (k + 1)) ?_ hK
    have hx := mkL_get hat
    have hdl := mkL_len l
    have hmem : l.getD at_ default ∈ l := getD_mem hat
    generalize l.getD at_ default = m at *
    have hmd := hd m hmem
    have hdb := dB_len m.data
    rw [mkD_mk] at hx
    refine TCall.w 138 [.cell 6 163] Tryz.func133 rfl rfl rfl rfl (by kernel_rfl) rfl ?_
    simp -implicitDefEqProofs (disch := omega) only [seval, go_sem, hx, hdl, hdb]
    refine cdK_d (fun hc => ?_) (fun hc => ?_)
    · have hsa : tvBin Tryz.prog .add 9 (.string (st [UInt8.toBitVec 116])) (.string (st m.data)) = some (.string (st (UInt8.toBitVec 116 :: m.data))) := str_add _ _ _ _ (by show 1 + m.data.length ≤ _; omega)
      simp -implicitDefEqProofs (disch := omega) only [seval, go_sem, hx, hdl, hdb, hsa]
      refine ⟨_, resCell (id := S.n) rfl ti163 (psh_old0 (push_self _ _) (Nat.lt_succ_self _)) rfl rfl, ?_⟩
      exact ⟨.mk 3#8 [] [] [] false 0#64 (UInt8.toBitVec 116 :: m.data), _, NdB_link (by simp; exact hmd), dg_ndV 3#8 0 0 0 .full .full .full false 0#64 [] [] [] _ (.inl ⟨rfl, rfl⟩) (.inl ⟨rfl, rfl⟩) (.inl ⟨rfl, rfl⟩), ren_ndV _ _ _, (Keep.push _ _).push' _⟩
    simp -implicitDefEqProofs (disch := omega) only [seval, go_sem, hx, hdl, hdb]
    by_cases hc2 : (m.kind % 4#8).toNat > 0
    · simp -implicitDefEqProofs (disch := omega) only [seval, go_sem, hx, hdl, hdb]
      refine ⟨_, resCell (id := S.n) rfl ti163 (psh_old0 (push_self _ _) (Nat.lt_succ_self _)) rfl rfl, ?_⟩
      exact ⟨.mk 2#8 [] [] m.data m.run m.stamp [], _, NdB_file hmd, dg_ndV 2#8 0 0 1 .full .full .none m.run m.stamp [] [] m.data [] (.inl ⟨rfl, rfl⟩) (.inl ⟨rfl, rfl⟩) (.inr rfl), ren_ndV _ _ _, (Keep.push _ _).push' _⟩
    by_cases hk0 : k = 0
    · simp -implicitDefEqProofs (disch := omega) only [seval, go_sem, hx, hdl, hdb]
      refine ⟨_, resCell (id := S.n) rfl ti163 (psh_old0 (push_self _ _) (Nat.lt_succ_self _)) rfl rfl, ?_⟩
      exact ⟨.mk 2#8 [] [] m.data m.run m.stamp [], _, NdB_file hmd, dg_ndV 2#8 0 0 1 .full .full .none m.run m.stamp [] [] m.data [] (.inl ⟨rfl, rfl⟩) (.inl ⟨rfl, rfl⟩) (.inr rfl), ren_ndV _ _ _, (Keep.push _ _).push' _⟩
    obtain ⟨k, rfl⟩ : ∃ k', k = k' + 1 := ⟨k - 1, by omega⟩
    simp -implicitDefEqProofs (disch := omega) only [seval, go_sem, hx, hdl, hdb]
    have hbx : ((((S.push (.cells 163 [.lit (.int .u8 0), .sl .full 0 [], .sl .full 0 [], .sl .full 0 [], .lit (.bool false), .lit (.float .f64 0), .lit (.string (st []))])).push (.cells 156 [.lit (w8 m.up), .lit (w8 m.kind), .lit (w8 m.name), .sl .none 1 (dB m.data), .lit (.bool m.run), .lit (wF m.stamp)])).push (.cells 163 [.lit (.int .u8 1), .sl .full 0 [], .sl .full 0 [], .sl .full 0 [], .lit (.bool false), .lit (.float .f64 0), .lit (.string (st []))]))).objs (S.n + 2) = .cells 163 [.lit (.int .u8 1), .sl .full 0 [], .sl .full 0 [], .sl .full 0 [], .lit (.bool false), .lit (.float .f64 0), .lit (.string (st []))] := push_self ((S.push _).push _) _
    have hbr : ((((S.push (.cells 163 [.lit (.int .u8 0), .sl .full 0 [], .sl .full 0 [], .sl .full 0 [], .lit (.bool false), .lit (.float .f64 0), .lit (.string (st []))])).push (.cells 156 [.lit (w8 m.up), .lit (w8 m.kind), .lit (w8 m.name), .sl .none 1 (dB m.data), .lit (.bool m.run), .lit (wF m.stamp)])).push (.cells 163 [.lit (.int .u8 1), .sl .full 0 [], .sl .full 0 [], .sl .full 0 [], .lit (.bool false), .lit (.float .f64 0), .lit (.string (st []))]))).objs S.n = .cells 163 [.lit (.int .u8 0), .sl .full 0 [], .sl .full 0 [], .sl .full 0 [], .lit (.bool false), .lit (.float .f64 0), .lit (.string (st []))] := psh_old0 (psh_old0 (push_self _ _) (Nat.lt_succ_self _)) (Nat.lt_succ_of_lt (Nat.lt_succ_self _))
    have hkp : Keep S (((S.push (.cells 163 [.lit (.int .u8 0), .sl .full 0 [], .sl .full 0 [], .sl .full 0 [], .lit (.bool false), .lit (.float .f64 0), .lit (.string (st []))])).push (.cells 156 [.lit (w8 m.up), .lit (w8 m.kind), .lit (w8 m.name), .sl .none 1 (dB m.data), .lit (.bool m.run), .lit (wF m.stamp)])).push (.cells 163 [.lit (.int .u8 1), .sl .full 0 [], .sl .full 0 [], .sl .full 0 [], .lit (.bool false), .lit (.float .f64 0), .lit (.string (st []))])) := ((Keep.push _ _).push' _).push' _
    have hn3 : (((S.push (.cells 163 [.lit (.int .u8 0), .sl .full 0 [], .sl .full 0 [], .sl .full 0 [], .lit (.bool false), .lit (.float .f64 0), .lit (.string (st []))])).push (.cells 156 [.lit (w8 m.up), .lit (w8 m.kind), .lit (w8 m.name), .sl .none 1 (dB m.data), .lit (.bool m.run), .lit (wF m.stamp)])).push (.cells 163 [.lit (.int .u8 1), .sl .full 0 [], .sl .full 0 [], .sl .full 0 [], .lit (.bool false), .lit (.float .f64 0), .lit (.string (st []))])).n = S.n + 3 := rfl
    generalize ((S.push (.cells 163 [.lit (.int .u8 0), .sl .full 0 [], .sl .full 0 [], .sl .full 0 [], .lit (.bool false), .lit (.float .f64 0), .lit (.string (st []))])).push (.cells 156 [.lit (w8 m.up), .lit (w8 m.kind), .lit (w8 m.name), .sl .none 1 (dB m.data), .lit (.bool m.run), .lit (wF m.stamp)])).push (.cells 163 [.lit (.int .u8 1), .sl .full 0 [], .sl .full 0 [], .sl .full 0 [], .lit (.bool false), .lit (.float .f64 0), .lit (.string (st []))]) = S1 at *
    refine loW.gh (Gh.cells hbx (cs' := [.lit (.int .u8 1), .sl .none 1 (dT []), .sl .none 7 (ndL []), .sl .full 0 [], .lit (.bool false), .lit (.float .f64 0), .lit (.string (st []))]) (.cons (.refl _) (.cons (.sl0 _ _ _) (.cons (by rw [ndL]; exact .sl0 _ _ _) (.cons (.refl _) (.cons (.refl _) (.cons (.refl _) (.cons (.refl _) .nil)))))))) ?_
    refine loW_invG (fun n T S' => ∃ (i : Nat) (ns : List Bs) (ks : List Nd) (g1 g2 : Tag), n + i = l.length ∧ at_ < i ∧ T 0 = .sl g 6 (mkL l) ∧ T 1 = .lit (.int .i64 (at_ : Int)) ∧ T 2 = .lit (.int .i64 (dp : Int)) ∧ T 6 = .ptr S.n 0 ∧ T 8 = .ptr (S.n + 2) 0 ∧ T 9 = .lit (.int .i64 (i : Int)) ∧
      S'.objs (S.n + 2) = .cells 163 [.lit (.int .u8 1), .sl g1 1 (dT ns), .sl g2 7 (ndL ks), .sl .full 0 [], .lit (.bool false), .lit (.float .f64 0), .lit (.string (st []))] ∧ S'.objs S.n = .cells 163 [.lit (.int .u8 0), .sl .full 0 [], .sl .full 0 [], .sl .full 0 [], .lit (.bool false), .lit (.float .f64 0), .lit (.string (st []))] ∧ KdB B (k + 1) (i - at_ - 1) ns ks ∧ S.n + 2 < S'.n ∧ Keep S S') (l.length - (at_ + 1)) ?_ ?_
    · exact ⟨at_ + 1, [], [], .none, .none, by omega, Nat.lt_succ_self _, rfl, rfl, rfl, rfl, rfl, rfl, TS.set_same' _ _ _, (st_old _ (by omega)).trans hbr, ⟨rfl, Nat.zero_le _, (fun s h => by cases h), (fun s h => by cases h)⟩, by show S.n + 2 < S1.n; omega, hkp.set (by omega) _⟩
    rintro n T S20 ⟨i, ns, ks, g1, g2, hi, hai, q0, q1, q2, q6, q8, q9, hb20, hbr20, hkd, hn20, hk20⟩
    obtain ⟨S2, hg2, hb2, hbr2, hn2, hk2⟩ : ∃ S2, Gh S20 S2 ∧ S2.objs (S.n + 2) = .cells 163 [.lit (.int .u8 1), .sl .none 1 (dT ns), .sl .none 7 (ndL ks), .sl .full 0 [], .lit (.bool false), .lit (.float .f64 0), .lit (.string (st []))] ∧ S2.objs S.n = .cells 163 [.lit (.int .u8 0), .sl .full 0 [], .sl .full 0 [], .sl .full 0 [], .lit (.bool false), .lit (.float .f64 0), .lit (.string (st []))] ∧ S.n + 2 < S2.n ∧ Keep S S2 :=
      ⟨_, Gh.cells hb20 (.cons (.refl _) (.cons (.sl _ _ _) (.cons (.sl _ _ _) (.cons (.refl _) (.cons (.refl _) (.cons (.refl _) (.cons (.refl _) .nil))))))), TS.set_same' _ _ _, (st_old _ (by omega)).trans hbr20, hn20, hk20.set (by omega) _⟩
    refine ⟨S2, hg2, ?_⟩
    clear hb20 hbr20 hn20 hk20 hg2
    simp -implicitDefEqProofs (disch := omega) only [seval, go_sem, q0, q1, q2, q6, q8, q9, hdl]
    refine cdK_d (fun hc3 => ?_) (fun hc3 => ?_)
    · have hlt : i < l.length := by omega
      have hxi := mkL_get hlt
      generalize l.getD i default = x at *
      rw [mkD_mk] at hxi
      simp -implicitDefEqProofs (disch := omega) only [seval, go_sem, q0, q1, q2, q6, q8, q9, hdl, hxi]
      refine cdK_d (fun hc4 => ?_) (fun hc4 => ?_)
      · simp -implicitDefEqProofs (disch := omega) only [seval, go_sem, q0, q1, q2, q6, q8, q9, hdl, hxi]
        exact ⟨n - 1, by omega, i + 1, ns, ks, .none, .none, by omega, by omega, q0, q1, q2, q6, q8, rfl, hb2, hbr2, ⟨hkd.e, Nat.le_trans hkd.l (by omega), hkd.n, hkd.k⟩, hn2, hk2⟩
      simp -implicitDefEqProofs (disch := omega) only [seval, go_sem, q0, q1, q2, q6, q8, q9, hdl, hxi]
      refine c_title ?_
      simp -implicitDefEqProofs (disch := omega) only [seval, go_sem, q0, q1, q2, q6, q8, q9, hdl, hxi]
      refine ih k (Nat.lt_succ_self _) (dp := dp + 1) hlt (by omega) (by omega) fun y hy0 => ?_
      have htt : (titleS x.name).length = 2 := rfl
      generalize titleS x.name = s at *
      cases y with
      | mk kd' ns' ks' d' r' s' t' =>
        rw [ndV_mk]
        simp -implicitDefEqProofs (disch := omega) only [seval, go_sem, q0, q1, q2, q6, q8, q9, hdl, hxi]
        refine loW.asRow 12 1 rfl (.inl rfl) ?_
        refine loW.asRow 13 7 rfl (.inl rfl) ?_
        have e1 : (((S2.push (.cells 163 [.lit (w8 kd'), .sl .none 1 (dT ns'), .sl .none 7 (ndL ks'), .sl .none 1 (dB d'), .lit (.bool r'), .lit (wF s'), .lit (.string (st t'))])).push .lin).push .lin).objs (S.n + 2) = .cells 163 [.lit (.int .u8 1), .sl .none 1 (dT ns), .sl .none 7 (ndL ks), .sl .full 0 [], .lit (.bool false), .lit (.float .f64 0), .lit (.string (st []))] := psh_old0 (psh_old0 (psh_old0 hb2 hn2) (Nat.lt_succ_of_lt hn2)) (Nat.lt_succ_of_lt (Nat.lt_succ_of_lt hn2))
        have e2 : (((S2.push (.cells 163 [.lit (w8 kd'), .sl .none 1 (dT ns'), .sl .none 7 (ndL ks'), .sl .none 1 (dB d'), .lit (.bool r'), .lit (wF s'), .lit (.string (st t'))])).push .lin).push .lin).objs S.n = .cells 163 [.lit (.int .u8 0), .sl .full 0 [], .sl .full 0 [], .sl .full 0 [], .lit (.bool false), .lit (.float .f64 0), .lit (.string (st []))] := psh_old0 (psh_old0 (psh_old0 hbr2 (by omega)) (by rw [TS.push_n]; omega)) (by rw [TS.push_n, TS.push_n]; omega)
        have e3 : (((S2.push (.cells 163 [.lit (w8 kd'), .sl .none 1 (dT ns'), .sl .none 7 (ndL ks'), .sl .none 1 (dB d'), .lit (.bool r'), .lit (wF s'), .lit (.string (st t'))])).push .lin).push .lin).objs S2.n = .cells 163 [.lit (w8 kd'), .sl .none 1 (dT ns'), .sl .none 7 (ndL ks'), .sl .none 1 (dB d'), .lit (.bool r'), .lit (wF s'), .lit (.string (st t'))] := psh_old0 (psh_old0 (push_self _ _) (Nat.lt_succ_self _)) (Nat.lt_succ_of_lt (Nat.lt_succ_self _))
        have e4 : (((S2.push (.cells 163 [.lit (w8 kd'), .sl .none 1 (dT ns'), .sl .none 7 (ndL ks'), .sl .none 1 (dB d'), .lit (.bool r'), .lit (wF s'), .lit (.string (st t'))])).push .lin).push .lin).objs (S2.n + 1) = .lin := psh_old0 (push_self (S2.push _) _) (Nat.lt_succ_self _)
        have e5 : (((S2.push (.cells 163 [.lit (w8 kd'), .sl .none 1 (dT ns'), .sl .none 7 (ndL ks'), .sl .none 1 (dB d'), .lit (.bool r'), .lit (wF s'), .lit (.string (st t'))])).push .lin).push .lin).objs (S2.n + 2) = .lin := push_self ((S2.push _).push _) _
        have e6 : (((S2.push (.cells 163 [.lit (w8 kd'), .sl .none 1 (dT ns'), .sl .none 7 (ndL ks'), .sl .none 1 (dB d'), .lit (.bool r'), .lit (wF s'), .lit (.string (st t'))])).push .lin).push .lin).n = S2.n + 3 := rfl
        have e7 : Keep S (((S2.push (.cells 163 [.lit (w8 kd'), .sl .none 1 (dT ns'), .sl .none 7 (ndL ks'), .sl .none 1 (dB d'), .lit (.bool r'), .lit (wF s'), .lit (.string (st t'))])).push .lin).push .lin) := ((hk2.push' _).push' _).push' _
        simp only [TS.push_n]
        generalize ((S2.push (.cells 163 [.lit (w8 kd'), .sl .none 1 (dT ns'), .sl .none 7 (ndL ks'), .sl .none 1 (dB d'), .lit (.bool r'), .lit (wF s'), .lit (.string (st t'))])).push .lin).push .lin = S3 at *
        have hdn := dT_len ns
        have hdk := ndL_len ks
        have hbl := hkd.l
        refine loW_inv (fun n2 T2 S' => ∃ (j : Nat) (a : List Bs) (b : List Nd) (ka kb : Nat) (dn : Bool), n2 + j = ns.length ∧ T2 0 = .sl g 6 (mkL l) ∧ T2 1 = .lit (.int .i64 (at_ : Int)) ∧ T2 2 = .lit (.int .i64 (dp : Int)) ∧ T2 6 = .ptr S.n 0 ∧ T2 8 = .ptr (S.n + 2) 0 ∧ T2 9 = .lit (.int .i64 (i : Int)) ∧ T2 10 = .lit (.string (st s)) ∧ T2 11 = .ptr S2.n 0 ∧
          T2 12 = .sl (.own ka) 1 (dT a) ∧ T2 13 = .sl (.own kb) 7 (ndL b) ∧ T2 14 = .lit (.bool dn) ∧ T2 15 = .lit (.int .i64 (j : Int)) ∧ S'.objs (S.n + 2) = .cells 163 [.lit (.int .u8 1), .sl .none 1 (dT ns), .sl .none 7 (ndL ks), .sl .full 0 [], .lit (.bool false), .lit (.float .f64 0), .lit (.string (st []))] ∧ S'.objs S.n = .cells 163 [.lit (.int .u8 0), .sl .full 0 [], .sl .full 0 [], .sl .full 0 [], .lit (.bool false), .lit (.float .f64 0), .lit (.string (st []))] ∧ S'.objs S2.n = .cells 163 [.lit (w8 kd'), .sl .none 1 (dT ns'), .sl .none 7 (ndL ks'), .sl .none 1 (dB d'), .lit (.bool r'), .lit (wF s'), .lit (.string (st t'))] ∧
          S'.objs ka = .lin ∧ S'.objs kb = .lin ∧ ka ≠ kb ∧ S2.n < ka ∧ S2.n < kb ∧ ka < S'.n ∧ kb < S'.n ∧ KdB B (k + 1) (j + if dn then 1 else 0) a b ∧ Keep S S') ns.length ?_ ?_
        · exact ⟨0, [], [], S2.n + 1, S2.n + 2, false, rfl, q0, q1, q2, q6, q8, q9, rfl, rfl, rfl, (by rw [ndL]; rfl), rfl, rfl, e1, e2, e3, e4, e5, by omega, by omega, by omega, by omega, by omega, KdB.nil _ _, e7⟩
        clear e1 e2 e3 e4 e5 e6 e7
        rintro n2 T2 S4 ⟨j, a, b, ka, kb, dn, hj, w0, w1, w2, w6, w8', w9, w10, w11, w12, w13, w14, w15, o1, o2, o3, oa, ob, hab, ha1, hb1, ha2, hb3, hkb, hk4⟩
        have hda := dT_len a
        have hdb2 := ndL_len b
        have hae := hkb.e
        have hal := hkb.l
        simp -implicitDefEqProofs (disch := omega) only [seval, go_sem, w0, w1, w2, w6, w8', w9, w10, w11, w12, w13, w14, w15, o1, o2, o3, hdn]
        refine cdK_d (fun hc5 => ?_) (fun hc5 => ?_)
        · have hltn : j < ns.length := by omega
          have hltk : j < ks.length := by have := hkd.e; omega
          have hy := dT_get hltn
          have hz := ndL_get hltk
          have hym : (ns.getD j []).length ≤ 40 := hkd.n _ (getD_mem hltn)
          have hzm : NdB B (k + 1) (ks.getD j default) := hkd.k _ (getD_mem hltk)
          generalize ns.getD j [] = yn at *
          generalize ks.getD j default = yk at *
          cases yk with
          | mk kd2 ns2 ks2 d2 r2 s2 t2 =>
            rw [ndD_mk] at hz
            cases dn with
            | true =>
              rw [if_pos rfl] at hal hkb
              simp -implicitDefEqProofs (disch := omega) only [seval, go_sem, w0, w1, w2, w6, w8', w9, w10, w11, w12, w13, w14, w15, o1, o2, o3, hdn, hy, hz, hda, hdb2, hdk, oa, ob]
              refine drW_at [(0, 0), (1, 0), (2, 0), (3, 0), (4, 0), (5, 0), (8, 0), (9, 0), (10, 0), (11, 0), (12, 0), (13, 0), (6, 3), (14, 3), (7, 1), (15, 2), (16, 0), (17, 0)] followsN (by kernel_rfl) ?_
              simp -implicitDefEqProofs (disch := omega) only [seval, go_sem, w0, w1, w2, w6, w8', w9, w10, w11, w12, w13, w14, w15, o1, o2, o3, hdn, hy, hz, hda, hdb2, hdk, oa, ob]
              refine ⟨KpL.grow oa _, rfl, n2 - 1, by omega, j + 1, a ++ [yn], b ++ [(.mk kd2 ns2 ks2 d2 r2 s2 t2)], S4.n, S4.n + 1, true, by omega, w0, w1, w2, w6, w8', w9, w10, w11, ?_, ?_, w14, rfl, two_old o1 (by omega) (by omega) (by omega), two_old o2 (by omega) (by omega) (by omega), two_old o3 (by omega) (by omega) (by omega), two_a, two_b, by omega, by omega, by omega, by rw [two_n]; omega, by rw [two_n]; omega, (hkb.snoc hym hzm), two_keep hk4 (by omega) (by omega)⟩
              · simp only [dT_app]; rfl
              · simp only [ndL_app, ndL, ndD_mk]; rfl
            | false =>
              rw [if_neg (by simp)] at hal hkb
              cases hlq : (ltS s yn || decide (s = yn)) with
              | false =>
                simp -implicitDefEqProofs (disch := omega) only [seval, go_sem, w0, w1, w2, w6, w8', w9, w10, w11, w12, w13, w14, w15, o1, o2, o3, hdn, hy, hz, hda, hdb2, hdk, oa, ob, hlq]
                refine drW_at [(0, 0), (1, 0), (2, 0), (3, 0), (4, 0), (5, 0), (8, 0), (9, 0), (10, 0), (11, 0), (12, 0), (13, 0), (6, 3), (14, 3), (7, 1), (15, 2), (16, 0), (17, 0)] followsN (by kernel_rfl) ?_
                simp -implicitDefEqProofs (disch := omega) only [seval, go_sem, w0, w1, w2, w6, w8', w9, w10, w11, w12, w13, w14, w15, o1, o2, o3, hdn, hy, hz, hda, hdb2, hdk, oa, ob]
                refine ⟨KpL.grow oa _, rfl, n2 - 1, by omega, j + 1, a ++ [yn], b ++ [(.mk kd2 ns2 ks2 d2 r2 s2 t2)], S4.n, S4.n + 1, false, by omega, w0, w1, w2, w6, w8', w9, w10, w11, ?_, ?_, w14, rfl, two_old o1 (by omega) (by omega) (by omega), two_old o2 (by omega) (by omega) (by omega), two_old o3 (by omega) (by omega) (by omega), two_a, two_b, by omega, by omega, by omega, by rw [two_n]; omega, by rw [two_n]; omega, (hkb.snoc hym hzm), two_keep hk4 (by omega) (by omega)⟩
                · simp only [dT_app]; rfl
                · simp only [ndL_app, ndL, ndD_mk]; rfl
              | true =>
                simp -implicitDefEqProofs (disch := omega) only [seval, go_sem, w0, w1, w2, w6, w8', w9, w10, w11, w12, w13, w14, w15, o1, o2, o3, hdn, hy, hz, hda, hdb2, hdk, oa, ob, hlq]
                refine drW_at [(0, 0), (1, 0), (4, 0), (5, 0), (2, 3), (6, 3), (3, 1), (7, 2), (8, 0), (9, 0)] followsN (by kernel_rfl) ?_
                simp -implicitDefEqProofs (disch := omega) only [seval, go_sem, w0, w1, w2, w6, w8', w9, w10, w11, w12, w13, w14, w15, o1, o2, o3, hdn, hy, hz, hda, hdb2, hdk, oa, ob]
                refine ⟨KpL.grow oa _, rfl, ?_⟩
                have e1 := two_old (ka := ka) (kb := kb) o1 (by omega) (by omega) (by omega)
                have e2 := two_old (ka := ka) (kb := kb) o2 (by omega) (by omega) (by omega)
                have e3 := two_old (ka := ka) (kb := kb) o3 (by omega) (by omega) (by omega)
                have ea := two_a (S := S4) (ka := ka) (kb := kb)
                have eb := two_b (S := S4) (ka := ka) (kb := kb)
                have ek := two_keep (ka := ka) (kb := kb) hk4 (by omega) (by omega)
                have en := two_n (S := S4) (ka := ka) (kb := kb)
                have k2 := hkb.snoc (s := s) (x := (.mk kd' ns' ks' d' r' s' t')) (by omega) hy0
                generalize (((S4.set ka .gone).set kb .gone).push .lin).push .lin = S5 at *
                have fa : dT a ++ [D.lit (.string (st s))] = dT (a ++ [s]) := by rw [dT_app]; rfl
                have fb : ndL b ++ [D.agg [.lit (w8 kd'), .sl 1 (dT ns'), .sl 7 (ndL ks'), .sl 1 (dB d'), .lit (.bool r'), .lit (wF s'), .lit (.string (st t'))]] = ndL (b ++ [(.mk kd' ns' ks' d' r' s' t')]) := by rw [ndL_app, ndL, ndL, ndD_mk]
                have la := dT_len (a ++ [s])
                have lb := ndL_len (b ++ [(.mk kd' ns' ks' d' r' s' t')])
                rw [List.length_append, List.length_singleton] at la lb
                refine cdK_d (fun hc6 => ?_) (fun hc6 => ?_)
                · simp -implicitDefEqProofs (disch := omega) only [seval, go_sem, w0, w1, w2, w6, w8', w9, w10, w11, w12, w13, w14, w15, o1, o2, o3, hdn, hy, hz, hda, hdb2, hdk, oa, ob, fa, fb]
                  exact ⟨n2 - 1, by omega, j + 1, a ++ [s], b ++ [(.mk kd' ns' ks' d' r' s' t')], S4.n, S4.n + 1, true, by omega, w0, w1, w2, w6, w8', w9, w10, w11, rfl, rfl, rfl, rfl, e1, e2, e3, ea, eb, by omega, by omega, by omega, by omega, by omega, k2.mono (by simp), ek⟩
                · simp -implicitDefEqProofs (disch := omega) only [seval, go_sem, w0, w1, w2, w6, w8', w9, w10, w11, w15, e1, e2, e3, hdn, hy, hz, hdk, fa, fb]
                  refine drW_at [(0, 0), (1, 0), (2, 0), (3, 0), (4, 0), (5, 0), (8, 0), (9, 0), (10, 0), (11, 0), (12, 0), (13, 0), (6, 3), (14, 3), (7, 1), (15, 2), (16, 0), (17, 0)] followsN (by kernel_rfl) ?_
                  simp -implicitDefEqProofs (disch := omega) only [seval, go_sem, w0, w1, w2, w6, w8', w9, w10, w11, w15, e1, e2, e3, hdn, hy, hz, hdk, fa, fb, la, lb, ea, eb]
                  refine ⟨KpL.grow ea _, rfl, n2 - 1, by omega, j + 1, (a ++ [s]) ++ [yn], (b ++ [(.mk kd' ns' ks' d' r' s' t')]) ++ [(.mk kd2 ns2 ks2 d2 r2 s2 t2)], S5.n, S5.n + 1, true, by omega, w0, w1, w2, w6, w8', w9, w10, w11, ?_, ?_, rfl, rfl, two_old e1 (by omega) (by omega) (by omega), two_old e2 (by omega) (by omega) (by omega), two_old e3 (by omega) (by omega) (by omega), two_a, two_b, by omega, by omega, by omega, by rw [two_n]; omega, by rw [two_n]; omega, ((k2.snoc hym hzm).mono (by simp)), two_keep ek (by omega) (by omega)⟩
                  · simp only [dT_app]; rfl
                  · simp only [ndL_app, ndL, ndD_mk]; rfl
        · have e : j = ns.length := by omega
          subst e
          have hkde := hkd.e
          cases dn with
          | true =>
            rw [if_pos rfl] at hal hkb
            simp -implicitDefEqProofs (disch := omega) only [seval, go_sem, w0, w1, w2, w6, w8', w9, w10, w11, w12, w13, w14, w15, o1, o2, o3, hdn, hda, hdb2, hdk, oa, ob]
            exact ⟨n - 1, by omega, i + 1, a, b, .own ka, .own kb, by omega, by omega, w0, w1, w2, w6, w8', rfl, TS.set_same' _ _ _, (st_old _ (by omega)).trans ((st_old _ (by omega)).trans o2), hkb.mono (by have := hkd.e; omega), by show S.n + 2 < S4.n; omega, (hk4.set (by omega) _).set (by omega) _⟩
          | false =>
            rw [if_neg (by simp)] at hal hkb
            simp -implicitDefEqProofs (disch := omega) only [seval, go_sem, w0, w1, w2, w6, w8', w9, w10, w11, w12, w13, w14, w15, o1, o2, o3, hdn, hda, hdb2, hdk, oa, ob]
            refine drW_at [(0, 0), (1, 0), (4, 0), (5, 0), (2, 3), (6, 3), (3, 1), (7, 2), (8, 0), (9, 0)] followsN (by kernel_rfl) ?_
            have e1 := two_old (ka := ka) (kb := kb) o1 (by omega) (by omega) (by omega)
            have e2 := two_old (ka := ka) (kb := kb) o2 (by omega) (by omega) (by omega)
            have k2 := hkb.snoc (s := s) (x := (.mk kd' ns' ks' d' r' s' t')) (by omega) hy0
            have fa : dT a ++ [D.lit (.string (st s))] = dT (a ++ [s]) := by rw [dT_app]; rfl
            have fb : ndL b ++ [D.agg [.lit (w8 kd'), .sl 1 (dT ns'), .sl 7 (ndL ks'), .sl 1 (dB d'), .lit (.bool r'), .lit (wF s'), .lit (.string (st t'))]] = ndL (b ++ [(.mk kd' ns' ks' d' r' s' t')]) := by rw [ndL_app, ndL, ndL, ndD_mk]
            simp -implicitDefEqProofs (disch := omega) only [seval, go_sem, w0, w1, w2, w6, w8', w9, w10, w11, w12, w13, w14, w15, o1, o2, o3, hdn, hda, hdb2, hdk, oa, ob, fa, fb, e1, e2]
            refine ⟨KpL.grow oa _, rfl, ?_⟩
            refine ⟨n - 1, by omega, i + 1, a ++ [s], b ++ [(.mk kd' ns' ks' d' r' s' t')], .own S4.n, .own (S4.n + 1), by omega, by omega, w0, w1, w2, w6, w8', rfl, psh_old0 (psh_old0 (TS.set_same' _ _ _) (by show S.n + 2 < S4.n; omega)) (by show S.n + 2 < S4.n + 1; omega), psh_old0 (psh_old0 ((st_old _ (by omega)).trans ((st_old _ (by omega)).trans ((st_old _ (by omega)).trans ((st_old _ (by omega)).trans o2)))) (by show S.n < S4.n; omega)) (by show S.n < S4.n + 1; omega), k2.mono (by omega), by show S.n + 2 < S4.n + 2; omega, (((((hk4.set (by omega) _).set (by omega) _).set (by omega) _).set (by omega) _).push' _).push' _⟩
    · have e : i = l.length := by omega
      subst e
      simp -implicitDefEqProofs (disch := omega) only [seval, go_sem, q0, q1, q2, q6, q8, q9, hdl, hb2, hbr2]
      refine ⟨_, resCell (id := S.n) q6 ti163 (TS.set_same' _ _ _) rfl rfl, ?_⟩
      exact ⟨.mk 1#8 ns ks [] false 0#64 [], _, NdB_dir hkd (by omega), dg_ndV 1#8 1 7 0 .none .none .full false 0#64 ns ks [] [] (.inr rfl) (.inr rfl) (.inl ⟨rfl, rfl⟩), ren_ndV _ _ _, hk2.set (Nat.le_refl _) _⟩
end Go.Proofs.YtoldjfappfbfbaaGreatDoor
namespace Go.Proofs.YtoldjfappfbfbaaGreatDoor
open Go.RowKit TL
set_option maxRecDepth 8000 in
set_option maxHeartbeats 1000000 in
theorem c_Make5 {B : Nat} (hB : B ≤ 1000000) {l : List Mk} (hl : l.length ≤ 40) (hd : ∀ m ∈ l, m.data.length ≤ B) {g : Tag} {S : TS} {K : TV → TS → Prop} (hK : ∀ n, NdB B 8 n → K (ndV n) S) :
    TCall env 106 [.sl g 6 (mkL l)] S K := by
  refine toPureXD (r := ndV) (Q := NdB B 8) ?_ hK
  have hdl := mkL_len l
  refine TCall.w 14 [.cell 2 163] Tryz.func106 rfl rfl rfl rfl (by kernel_rfl) rfl ?_
  simp -implicitDefEqProofs (disch := omega) only [seval, go_sem, hdl]
  refine cdK_d (fun hc => ?_) (fun hc => ?_)
  · simp -implicitDefEqProofs (disch := omega) only [seval, go_sem, hdl]
    refine ⟨_, resCell (id := S.n) rfl ti163 (push_self _ _) rfl rfl, ?_⟩
    exact ⟨.mk 2#8 [] [] [] false 0#64 [], _, NdB_file (k := 7) (Nat.zero_le _), dg_ndV 2#8 0 0 0 .full .full .full false 0#64 [] [] [] [] (.inl ⟨rfl, rfl⟩) (.inl ⟨rfl, rfl⟩) (.inl ⟨rfl, rfl⟩), ren_ndV _ _ _, Keep.push _ _⟩
  simp -implicitDefEqProofs (disch := omega) only [seval, go_sem, hdl]
  refine c_kids hB hl hd 7 (dp := 1) (at_ := 0) (by omega) rfl (by omega) fun n hn => ?_
  cases n with
  | mk k ns ks d r s t =>
    rw [ndV_mk]
    simp -implicitDefEqProofs (disch := omega) only [seval, go_sem]
    refine ⟨_, resCell (id := S.n) rfl ti163 (push_self _ _) rfl rfl, ?_⟩
    exact ⟨_, _, hn, .refl _, ren_ndV _ _ (.mk k ns ks d r s t), Keep.push _ _⟩
def bsV (x : Bs) : TV := .sl .none 1 (dB x)
set_option maxRecDepth 8000 in
set_option maxHeartbeats 1000000 in
theorem c_Of6 {l : List Mk} (hl : l.length ≤ 40) (hd : ∀ m ∈ l, m.data.length ≤ 200) {g : Tag} {S : TS} {K : TV → TS → Prop} (hK : ∀ x : Bs, x.length ≤ 1000000 → K (bsV x) S) :
    TCall env 59 [.sl g 6 (mkL l)] S K := by
  refine toPureXD (r := bsV) (Q := fun x => x.length ≤ 1000000) ?_ hK
  refine TCall.w 12 [.tmp 2] Tryz.func59 rfl rfl rfl rfl (by kernel_rfl) rfl ?_
  simp -implicitDefEqProofs (disch := omega) only [seval, go_sem]
  refine c_Make5 (B := 200) (by omega) hl hd fun n hn => ?_
  simp -implicitDefEqProofs (disch := omega) only [seval, go_sem]
  refine c_Write6 hn (by omega) (by omega) ?_
  simp -implicitDefEqProofs (disch := omega) only [seval, go_sem]
  exact ⟨(writeN n).1, _, Nat.le_trans (writeN_len hn) (by decide), .refl _, .slN _ _ _, Keep.refl _⟩
set_option maxRecDepth 8000 in
set_option maxHeartbeats 1000000 in
theorem c_Small5 {l : List Mk} (hl : l.length ≤ LIM) (hd : ∀ m ∈ l, m.data.length ≤ LIM) {g : Tag} {S : TS} {K : TV → TS → Prop} (hK : K (.lit (.bool (l.all (fun m => decide (m.data.length ≤ 200)) && decide ((l.length : Int) ≤ 60)))) S) :
    TCall env 57 [.sl g 6 (mkL l)] S K := by
  have hdl := mkL_len l
  have hl' : l.length ≤ 140737488355328 := hl
  refine TCall.w 20 [.tmp 2] Tryz.func57 rfl rfl rfl rfl (by kernel_rfl) rfl ?_
  simp -implicitDefEqProofs (disch := omega) only [seval, go_sem]
  refine loW_inv (fun n T S' => ∃ i : Nat, n + i = l.length ∧ T 0 = .sl g 6 (mkL l) ∧ T 3 = .lit (.int .i64 (i : Int)) ∧ S' = S ∧ (l.take i).all (fun m => decide (m.data.length ≤ 200)) = true) l.length ?_ ?_
  · exact ⟨0, rfl, rfl, rfl, rfl, rfl⟩
  rintro n T S2 ⟨i, hi, e0, e3, rfl, hall⟩
  simp -implicitDefEqProofs (disch := omega) only [seval, go_sem, e0, e3, hdl]
  refine cdK_d (fun hc => ?_) (fun hc => ?_)
  · have hlt : i < l.length := by omega
    have hx := mkL_get hlt
    have htk := take_succ_D l default hlt
    have hdm : (l.getD i default).data.length ≤ LIM := hd _ (getD_mem hlt)
    have hmem : l.getD i default ∈ l := getD_mem hlt
    generalize l.getD i default = m at *
    rw [mkD_mk] at hx
    have hdb := dB_len m.data
    simp -implicitDefEqProofs (disch := omega) only [seval, go_sem, e0, e3, hdl, hx, hdb]
    refine cdK_d (fun hc2 => ?_) (fun hc2 => ?_)
    · have : l.all (fun m => decide (m.data.length ≤ 200)) = false := by
        rw [List.all_eq_false]
        exact ⟨m, hmem, by simp; omega⟩
      rw [this] at hK
      simp -implicitDefEqProofs (disch := omega) only [seval, go_sem, e0, e3]
      exact hK
    · simp -implicitDefEqProofs (disch := omega) only [seval, go_sem, e0, e3]
      refine ⟨n - 1, by omega, i + 1, by omega, e0, rfl, rfl, ?_⟩
      rw [htk, List.all_append, hall]
      simp; omega
  · have : l.all (fun m => decide (m.data.length ≤ 200)) = true := by rw [← List.take_of_length_le (l := l) (i := i) (by omega)]; exact hall
    rw [this, Bool.true_and] at hK
    simp -implicitDefEqProofs (disch := omega) only [seval, go_sem, e0, e3, hdl]
    exact hK
def dBB (l : List Bs) : List D := l.map fun x => .sl 1 (dB x)
theorem dBB_len (l : List Bs) : (dBB l).length = l.length := List.length_map _
theorem dBB_app (a b : List Bs) : dBB (a ++ b) = dBB a ++ dBB b := List.map_append
theorem dBB_get {l : List Bs} {i : Nat} (h : i < l.length) : (dBB l).getD i default = .sl 1 (dB (l.getD i [])) := by
  rw [dBB, List.getD_eq_getElem?_getD, List.getElem?_map, List.getD_eq_getElem?_getD, List.getElem?_eq_getElem h]; rfl
def path0 : Bs := [UInt8.toBitVec 48, UInt8.toBitVec 49, UInt8.toBitVec 50, UInt8.toBitVec 51, UInt8.toBitVec 52, UInt8.toBitVec 53, UInt8.toBitVec 54, UInt8.toBitVec 55, UInt8.toBitVec 56, UInt8.toBitVec 57, UInt8.toBitVec 97, UInt8.toBitVec 98, UInt8.toBitVec 99, UInt8.toBitVec 100, UInt8.toBitVec 102, UInt8.toBitVec 103, UInt8.toBitVec 104, UInt8.toBitVec 105, UInt8.toBitVec 106, UInt8.toBitVec 107, UInt8.toBitVec 108, UInt8.toBitVec 109, UInt8.toBitVec 110, UInt8.toBitVec 112, UInt8.toBitVec 113, UInt8.toBitVec 114, UInt8.toBitVec 115, UInt8.toBitVec 118, UInt8.toBitVec 119, UInt8.toBitVec 120, UInt8.toBitVec 121, UInt8.toBitVec 122, UInt8.toBitVec 45, UInt8.toBitVec 110, UInt8.toBitVec 111]
/-- A world of archives. -/
def worldV (ars : List Bs) : TV := .agg [.sl .none 1 (gD fW), .sl .none 1 (gD kW), .sl .none 1 (dBB ars), .sl .none 1 (dT names3), .sl .none 1 (dT [path0])]
theorem worldV_mk (ars : List Bs) : worldV ars = .agg [.sl .none 1 (gD fW), .sl .none 1 (gD kW), .sl .none 1 (dBB ars), .sl .none 1 (dT names3), .sl .none 1 (dT [path0])] := rfl
theorem ren_worldV (n : Nat) (L : List Nat) (x : List Bs) : Ren n L (worldV x) (worldV x) :=
  .aggF (.cons (.sl0 _ _ _ (.inl rfl)) (.cons (.sl0 _ _ _ (.inl rfl)) (.cons (.sl0 _ _ _ (.inl rfl)) (.cons (.sl0 _ _ _ (.inl rfl)) (.cons (.sl0 _ _ _ (.inl rfl)) .nil)))))
def treeD (l : List Mk) : D := .sl 6 (mkL l)
def treeL (l : List (List Mk)) : List D := l.map treeD
theorem treeL_len (l : List (List Mk)) : (treeL l).length = l.length := List.length_map _
theorem treeL_get {l : List (List Mk)} {i : Nat} (h : i < l.length) : (treeL l).getD i default = .sl 6 (mkL (l.getD i [])) := by
  rw [treeL, List.getD_eq_getElem?_getD, List.getElem?_map, List.getD_eq_getElem?_getD, List.getElem?_eq_getElem h]; rfl
structure ArsB (l : List Bs) : Prop where
  ne : l ≠ []
  ll : l.length ≤ 5
  b : ∀ x ∈ l, x.length ≤ 1000000
set_option maxRecDepth 8000 in
set_option maxHeartbeats 1000000 in
theorem c_Begin {trees : List (List Mk)} (htl : trees.length ≤ LIM) (hl : ∀ t ∈ trees, t.length ≤ 40) (hd : ∀ t ∈ trees, ∀ m ∈ t, m.data.length ≤ 200) {g : Tag} {S : TS} {K : TV → TS → Prop} (hK : ∀ ars, ArsB ars → K (worldV ars) S) :
    TCall env 15 [.sl g 1 (treeL trees)] S K := by
  refine toPureXD (r := worldV) (Q := ArsB) ?_ hK
  have hdl := treeL_len trees
  refine TCall.w 37 [.cell 2 35] Tryz.func15 rfl rfl rfl rfl (by kernel_rfl) rfl ?_
  simp -implicitDefEqProofs (disch := omega) only [seval, go_sem]
  refine c_New ?_
  simp -implicitDefEqProofs (disch := omega) only [seval, go_sem]
  have hb1 : ((S.push (.cells 35 [.sl .full 0 [], .sl .full 0 [], .sl .full 0 [], .sl .full 0 [], .sl .full 0 []])).push (.cells 35 [.sl .none 1 (gD fW), .sl .none 1 (gD kW), .sl .full 0 [], .sl .full 1 (dT names3), .sl .full 0 []])).objs (S.n + 1) = .cells 35 [.sl .none 1 (gD fW), .sl .none 1 (gD kW), .sl .full 0 [], .sl .full 1 (dT names3), .sl .full 0 []] := push_self (S.push _) _
  have hr1 : ((S.push (.cells 35 [.sl .full 0 [], .sl .full 0 [], .sl .full 0 [], .sl .full 0 [], .sl .full 0 []])).push (.cells 35 [.sl .none 1 (gD fW), .sl .none 1 (gD kW), .sl .full 0 [], .sl .full 1 (dT names3), .sl .full 0 []])).objs S.n = .cells 35 [.sl .full 0 [], .sl .full 0 [], .sl .full 0 [], .sl .full 0 [], .sl .full 0 []] := psh_old0 (push_self _ _) (Nat.lt_succ_self _)
  have hk1 : Keep S ((S.push (.cells 35 [.sl .full 0 [], .sl .full 0 [], .sl .full 0 [], .sl .full 0 [], .sl .full 0 []])).push (.cells 35 [.sl .none 1 (gD fW), .sl .none 1 (gD kW), .sl .full 0 [], .sl .full 1 (dT names3), .sl .full 0 []])) := (Keep.push _ _).push' _
  have hn1 : ((S.push (.cells 35 [.sl .full 0 [], .sl .full 0 [], .sl .full 0 [], .sl .full 0 [], .sl .full 0 []])).push (.cells 35 [.sl .none 1 (gD fW), .sl .none 1 (gD kW), .sl .full 0 [], .sl .full 1 (dT names3), .sl .full 0 []])).n = S.n + 2 := rfl
  rw [show [D.lit (Value.string (st [UInt8.toBitVec 97])), D.lit (Value.string (st [UInt8.toBitVec 98, UInt8.toBitVec 46, UInt8.toBitVec 99])), D.lit (Value.string (st [UInt8.toBitVec 108, UInt8.toBitVec 105, UInt8.toBitVec 98, UInt8.toBitVec 45, UInt8.toBitVec 49]))] = dT names3 from rfl]
  generalize ((S.push (.cells 35 [.sl .full 0 [], .sl .full 0 [], .sl .full 0 [], .sl .full 0 [], .sl .full 0 []])).push (.cells 35 [.sl .none 1 (gD fW), .sl .none 1 (gD kW), .sl .full 0 [], .sl .full 1 (dT names3), .sl .full 0 []])) = S1 at *
  refine loW.gh (Gh.rowCell 1 2 hb1 rfl) ?_
  refine loW_inv (fun n T S' => ∃ (i : Nat) (ars : List Bs) (k : Nat), n + i = trees.length ∧ i ≤ 4 ∧ ars.length = i ∧ (∀ x ∈ ars, x.length ≤ 1000000) ∧ T 0 = .sl g 1 (treeL trees) ∧ T 2 = .ptr S.n 0 ∧ T 3 = .ptr (S.n + 1) 0 ∧ T 4 = .lit (.int .i64 (i : Int)) ∧
    S'.objs (S.n + 1) = .cells 35 [.sl .none 1 (gD fW), .sl .none 1 (gD kW), .sl (.own k) 1 (dBB ars), .sl .full 1 (dT names3), .sl .full 0 []] ∧ S'.objs S.n = .cells 35 [.sl .full 0 [], .sl .full 0 [], .sl .full 0 [], .sl .full 0 [], .sl .full 0 []] ∧ S'.objs k = .lin ∧ S.n + 1 < k ∧ k < S'.n ∧ Keep S S') trees.length ?_ ?_
  · exact ⟨0, [], S1.n, rfl, by omega, rfl, (fun x h => by cases h), rfl, rfl, rfl, rfl, TS.set_same' _ _ _, (st_old _ (by omega)).trans (psh_old0 hr1 (by omega)), (st_old _ (by omega)).trans (push_self _ _), by omega, Nat.lt_succ_self _, (hk1.push' _).set (by omega) _⟩
  rintro n T S2 ⟨i, ars, k, hi, hi4, hal, hab, e0, e2, e3, e4, hb2, hr2, ho2, hk3, hn2, hk2⟩
  have hda := dBB_len ars
  have htl' : trees.length ≤ 140737488355328 := htl
  by_cases hc : i < trees.length ∧ i < 4
  · obtain ⟨hc, hc4⟩ := hc
    have hx := treeL_get hc
    have hmem : trees.getD i [] ∈ trees := getD_mem hc
    have hxl := hl _ hmem
    have hxd := hd _ hmem
    generalize trees.getD i [] = t at *
    simp -implicitDefEqProofs (disch := omega) only [seval, go_sem, e0, e2, e3, e4, hdl, hb2, hx]
    refine drW_at [(0, 0), (1, 0), (2, 0), (3, 0), (4, 0), (5, 0), (6, 1), (7, 1), (8, 2), (9, 0), (10, 2)] followsN (by kernel_rfl) ?_
    simp -implicitDefEqProofs (disch := omega) only [seval, go_sem, e0, e2, e3, e4, hdl, hb2, hx]
    refine c_Of6 hxl hxd fun x hxb => ?_
    rw [bsV]
    simp -implicitDefEqProofs (disch := omega) only [seval, go_sem, e0, e2, e3, e4, hdl, hb2, hda, ho2]
    refine ⟨n - 1, by omega, i + 1, ars ++ [x], S2.n, by omega, by omega, by simp [hal], fun y hy => ?_, e0, e2, e3, rfl, ?_, psh_old0 ((st_old _ (by omega)).trans ((st_old _ (by omega)).trans hr2)) (by show S.n < S2.n; omega), push_self _ _, by omega, Nat.lt_succ_self _, (((hk2.set (by omega) _).set (by omega) _).push' _)⟩
    · rcases List.mem_append.1 hy with hy | hy
      · exact hab y hy
      · rw [List.mem_singleton.1 hy]; exact hxb
    · rw [dBB_app]
      exact psh_old0 (TS.set_same' _ _ _) (by show S.n + 1 < S2.n; omega)
  by_cases hc1 : i < trees.length
  · have hc4 : ¬ i < 4 := fun h => hc ⟨hc1, h⟩
    simp -implicitDefEqProofs (disch := omega) only [seval, go_sem, e0, e2, e3, e4, hdl, hb2]
    refine drW_at [(0, 0), (1, 0), (2, 1), (3, 1), (4, 2), (5, 0), (6, 2)] followsN (by kernel_rfl) ?_
    simp -implicitDefEqProofs (disch := omega) only [seval, go_sem, e0, e2, e3, e4, hdl, hb2, hda]
    refine .argL (.empty .nil) (c_Of6 (l := []) (g := .full) (by simp) (fun m h => by cases h) fun x hxb => ?_)
    rw [bsV]
    simp -implicitDefEqProofs (disch := omega) only [seval, go_sem, e0, e2, e3, e4, hdl, hb2, hda, ho2, hr2]
    refine ⟨_, resCell (id := S.n) e2 ti35 (psh_old0 (TS.set_same' _ _ _) (by show S.n < S2.n; omega)) rfl rfl, ?_⟩
    refine ⟨ars ++ [x], worldV (ars ++ [x]), ⟨by simp, by simp; omega, fun y hy => ?_⟩, ?_, ren_worldV _ _ _, ?_⟩
    · rcases List.mem_append.1 hy with hy | hy
      · exact hab y hy
      · rw [List.mem_singleton.1 hy]; exact hxb
    · rw [worldV_mk, dBB_app]
      exact .aggF (.cons (.refl _) (.cons (.refl _) (.cons (.sl _ _ _) (.cons (.sl _ _ _) (.cons (.sl _ _ _) .nil)))))
    · exact ((((hk2.set (by omega) _).set (by omega) _).set (by omega) _).set (Nat.le_refl _) _).push' _
  · simp -implicitDefEqProofs (disch := omega) only [seval, go_sem, e0, e2, e3, e4, hdl, hb2]
    refine drW_at [(0, 0), (1, 0), (2, 1), (3, 1), (4, 2), (5, 0), (6, 2)] followsN (by kernel_rfl) ?_
    simp -implicitDefEqProofs (disch := omega) only [seval, go_sem, e0, e2, e3, e4, hdl, hb2, hda]
    refine .argL (.empty .nil) (c_Of6 (l := []) (g := .full) (by simp) (fun m h => by cases h) fun x hxb => ?_)
    rw [bsV]
    simp -implicitDefEqProofs (disch := omega) only [seval, go_sem, e0, e2, e3, e4, hdl, hb2, hda, ho2, hr2]
    refine ⟨_, resCell (id := S.n) e2 ti35 (psh_old0 (TS.set_same' _ _ _) (by show S.n < S2.n; omega)) rfl rfl, ?_⟩
    refine ⟨ars ++ [x], worldV (ars ++ [x]), ⟨by simp, by simp; omega, fun y hy => ?_⟩, ?_, ren_worldV _ _ _, ?_⟩
    · rcases List.mem_append.1 hy with hy | hy
      · exact hab y hy
      · rw [List.mem_singleton.1 hy]; exact hxb
    · rw [worldV_mk, dBB_app]
      exact .aggF (.cons (.refl _) (.cons (.refl _) (.cons (.sl _ _ _) (.cons (.sl _ _ _) (.cons (.sl _ _ _) .nil)))))
    · exact ((((hk2.set (by omega) _).set (by omega) _).set (by omega) _).set (Nat.le_refl _) _).push' _
end Go.Proofs.YtoldjfappfbfbaaGreatDoor
namespace Go.Proofs.YtoldjfappfbfbaaGreatDoor
open Go.RowKit TL
structure ActM where
  do_ : BitVec 8
  a : BitVec 8
  b : BitVec 8
  more : BitVec 8
instance : Inhabited ActM := ⟨⟨0#8, 0#8, 0#8, 0#8⟩⟩
def actD (x : ActM) : D := .agg [.lit (w8 x.do_), .lit (w8 x.a), .lit (w8 x.b), .lit (w8 x.more)]
theorem actD_mk (x : ActM) : actD x = .agg [.lit (w8 x.do_), .lit (w8 x.a), .lit (w8 x.b), .lit (w8 x.more)] := rfl
def actL (l : List ActM) : List D := l.map actD
theorem actL_len (l : List ActM) : (actL l).length = l.length := List.length_map _
theorem actL_get {l : List ActM} {i : Nat} (h : i < l.length) : (actL l).getD i default = actD (l.getD i default) := by
  rw [actL, List.getD_eq_getElem?_getD, List.getElem?_map, List.getD_eq_getElem?_getD, List.getElem?_eq_getElem h]; rfl
structure PlanM where
  trees : List (List Mk)
  acts : List ActM
def planV (x : PlanM) : TV := .agg [.sl .none 1 (treeL x.trees), .sl .none 4 (actL x.acts)]
theorem planV_mk (x : PlanM) : planV x = .agg [.sl .none 1 (treeL x.trees), .sl .none 4 (actL x.acts)] := rfl
/-- A plan that an argument can be. -/
structure PlanB (x : PlanM) : Prop where
  tl : x.trees.length ≤ LIM
  ml : ∀ t ∈ x.trees, t.length ≤ LIM ∧ ∀ m ∈ t, m.data.length ≤ LIM
  al : x.acts.length ≤ LIM
def shMade : Sh := .st [.u8, .u8, .u8, .sl .u8, .bool, .f64]
def shAct : Sh := .st [.u8, .u8, .u8, .u8]
def shPlan : List Sh := [.sl (.sl shMade), .sl shAct]
theorem fit_map {α : Type} {sh : Sh} {f : α → D} {Q : α → Prop} (h : ∀ d, Fit sh d → ∃ a, d = f a ∧ Q a) : ∀ l : List D, (∀ x ∈ l, Fit sh x) → ∃ ys : List α, l = ys.map f ∧ ∀ a ∈ ys, Q a
  | [], _ => ⟨[], rfl, fun a h => by cases h⟩
  | d :: l, hl => by
    obtain ⟨a, rfl, ha⟩ := h d (hl d (by simp))
    obtain ⟨ys, rfl, has⟩ := fit_map h l fun x hx => hl x (List.mem_cons_of_mem _ hx)
    exact ⟨a :: ys, rfl, fun b hb => by
      rcases List.mem_cons.1 hb with rfl | hb
      · exact ha
      · exact has b hb⟩
theorem fit_bytes {l : List D} (h : ∀ x ∈ l, Fit .u8 x) : ∃ bs : Bs, l = dB bs := by
  obtain ⟨bs, h1, _⟩ := fit_map (f := fun b : BitVec 8 => D.lit (w8 b)) (Q := fun _ => True) (sh := .u8) (fun d h => by
    rw [Fit] at h
    obtain ⟨b, hb⟩ := h
    exact ⟨b, hb, trivial⟩) l h
  exact ⟨bs, h1⟩
theorem fit_made (d : D) (h : Fit shMade d) : ∃ m, d = mkD m ∧ m.data.length ≤ LIM := by
  rw [shMade, Fit] at h
  obtain ⟨l, rfl, h⟩ := h
  match l, h with
  | [d0, d1, d2, d3, d4, d5], h =>
    simp only [FitL, Fit] at h
    obtain ⟨⟨b0, rfl⟩, ⟨b1, rfl⟩, ⟨b2, rfl⟩, ⟨l3, hl3, rfl, h3⟩, ⟨b4, rfl⟩, ⟨b5, rfl⟩, _⟩ := h
    obtain ⟨bs, rfl⟩ := fit_bytes h3
    rw [dB_len] at hl3
    exact ⟨⟨b0, b1, b2, bs, b4, b5⟩, rfl, hl3⟩
theorem fit_act (d : D) (h : Fit shAct d) : ∃ x, d = actD x ∧ True := by
  rw [shAct, Fit] at h
  obtain ⟨l, rfl, h⟩ := h
  match l, h with
  | [d0, d1, d2, d3], h =>
    simp only [FitL, Fit] at h
    obtain ⟨⟨b0, rfl⟩, ⟨b1, rfl⟩, ⟨b2, rfl⟩, ⟨b3, rfl⟩, _⟩ := h
    exact ⟨⟨b0, b1, b2, b3⟩, rfl, trivial⟩
theorem fit_tree (d : D) (h : Fit (.sl shMade) d) : ∃ t, d = treeD t ∧ t.length ≤ LIM ∧ ∀ m ∈ t, m.data.length ≤ LIM := by
  rw [Fit] at h
  obtain ⟨l, hl, rfl, h⟩ := h
  obtain ⟨ms, rfl, hm⟩ := fit_map fit_made l h
  rw [List.length_map] at hl
  exact ⟨ms, rfl, hl, hm⟩
theorem fit_acts (d : D) (h : Fit (.sl shAct) d) : ∃ xs : List ActM, d = .sl 4 (actL xs) ∧ xs.length ≤ LIM := by
  rw [Fit] at h
  obtain ⟨l, hl, rfl, h⟩ := h
  obtain ⟨ms, rfl, hm⟩ := fit_map fit_act l h
  rw [List.length_map] at hl
  exact ⟨ms, rfl, hl⟩
theorem fit_plan {l : List D} (h : FitL shPlan l) : ∃ x, .agg (l.map tvD) = planV x ∧ PlanB x := by
  match l, h with
  | [d0, d1], h =>
    rw [shPlan] at h
    simp only [FitL] at h
    obtain ⟨h00, h1, _⟩ := h
    rw [Fit] at h00
    obtain ⟨l0, hl0, rfl, h0⟩ := h00
    obtain ⟨xs, rfl, hx⟩ := fit_acts d1 h1
    obtain ⟨ts, rfl, ht⟩ := fit_map fit_tree l0 h0
    rw [List.length_map] at hl0
    exact ⟨⟨ts, xs⟩, rfl, hl0, ht, hx⟩
end Go.Proofs.YtoldjfappfbfbaaGreatDoor
namespace Go.Proofs.YtoldjfappfbfbaaGreatDoor
open Go.RowKit TL
def actV (x : ActM) : TV := .agg [.lit (w8 x.do_), .lit (w8 x.a), .lit (w8 x.b), .lit (w8 x.more)]
theorem actV_mk (x : ActM) : actV x = .agg [.lit (w8 x.do_), .lit (w8 x.a), .lit (w8 x.b), .lit (w8 x.more)] := rfl
def treeB (t : List Mk) : Bool := decide (t.length ≤ 8) && (t.all (fun m => decide (m.data.length ≤ 200)) && decide ((t.length : Int) ≤ 60))
def smallB (x : PlanM) : Bool := x.trees.all treeB && (decide ((x.trees.length : Int) ≤ 4) && decide ((x.acts.length : Int) ≤ 60))
/-- What a small plan is. -/
structure PlanS (x : PlanM) : Prop where
  tl : x.trees.length ≤ 4
  ml : ∀ t ∈ x.trees, t.length ≤ 40
  dl : ∀ t ∈ x.trees, ∀ m ∈ t, m.data.length ≤ 200
  al : x.acts.length ≤ 60
theorem small_of {x : PlanM} (h : smallB x = true) : PlanS x := by
  unfold smallB at h
  simp only [Bool.and_eq_true, decide_eq_true_eq] at h
  have ht : ∀ t ∈ x.trees, t.length ≤ 8 ∧ ∀ m ∈ t, m.data.length ≤ 200 := fun t ht => by
    have := List.all_eq_true.1 h.1 t ht
    unfold treeB at this
    simp only [Bool.and_eq_true, decide_eq_true_eq] at this
    exact ⟨this.1, fun m hm => by simpa using List.all_eq_true.1 this.2.1 m hm⟩
  exact ⟨by have := h.2.1; omega, fun t h' => Nat.le_trans (ht t h').1 (by decide), fun t h' => (ht t h').2, by have := h.2.2; omega⟩
/-- A row of an act. -/
def rowG (ars : List Bs) (made : List RowM) (x : ActM) : RowM :=
  ⟨(if 250 ≤ x.more.toNat then [UInt8.toBitVec 120] else []) ++ (if refsOk (riseL (refsM made x.b.toNat (x.more.toNat % 4))) = true then mkP (names3.getD (x.a.toNat % 3) []) (ars.getD (x.b.toNat % ars.length) []) (riseL (refsM made x.b.toNat (x.more.toNat % 4))) else []),
    names3.getD (x.a.toNat % 3) [], ars.getD (x.b.toNat % ars.length) [], riseL (refsM made x.b.toNat (x.more.toNat % 4))⟩
theorem rowG_ok {ars : List Bs} {made : List RowM} {x : ActM} (h : ∀ r ∈ made, isP r.path = true) (hx : x.more.toNat < 250) : rowG ars made x = rowM ars made x.a.toNat x.b.toNat (x.more.toNat % 4) := by
  have h2 : refsOk (riseL (refsM made x.b.toNat (x.more.toNat % 4))) = true := refsOk_riseL (by
    rw [List.all_eq_true]
    intro q hq
    obtain ⟨r, hr, rfl⟩ := List.mem_map.1 (refsM_mem hq)
    exact h r hr) (by rw [refsM_len]; omega)
  unfold rowG rowM
  rw [if_neg (by omega), if_pos h2, List.nil_append]
set_option maxRecDepth 8000 in
set_option maxHeartbeats 1000000 in
theorem c_small16 {x : PlanM} (hb : PlanB x) {S : TS} {K : TV → TS → Prop} (hK : K (.lit (.bool (smallB x))) S) : TCall env 14 [planV x] S K := by
  refine TCall.toPure (r := .lit (.bool (smallB x))) ?_ hK
  have hdt := treeL_len x.trees
  have hda := actL_len x.acts
  have hl' : x.trees.length ≤ 140737488355328 := hb.tl
  rw [planV_mk]
  refine TCall.w 37 [.tmp 2] Tryz.func14 rfl rfl rfl rfl (by kernel_rfl) rfl ?_
  simp -implicitDefEqProofs (disch := omega) only [seval, go_sem]
  refine loW_inv (fun n T S' => ∃ i : Nat, n + i = x.trees.length ∧ T 1 = .ptr S.n 0 ∧ T 3 = .lit (.int .i64 (i : Int)) ∧ S'.objs S.n = .cells 25 [.sl .none 1 (treeL x.trees), .sl .none 4 (actL x.acts)] ∧ Keep S S' ∧ (x.trees.take i).all treeB = true) x.trees.length ?_ ?_
  · exact ⟨0, rfl, rfl, rfl, push_self _ _, Keep.push _ _, rfl⟩
  rintro n T S2 ⟨i, hi, e1, e3, ho, hk, hall⟩
  simp -implicitDefEqProofs (disch := omega) only [seval, go_sem, e1, e3, ho, hdt]
  refine cdK_d (fun hc => ?_) (fun hc => ?_)
  · have hlt : i < x.trees.length := by omega
    have hx := treeL_get hlt
    have htk := take_succ_D x.trees [] hlt
    have hmem : x.trees.getD i [] ∈ x.trees := getD_mem hlt
    have hbt := hb.ml _ hmem
    generalize x.trees.getD i [] = t at *
    have hdm := mkL_len t
    have hno : treeB t = false → smallB x = false := fun h => by
      unfold smallB
      rw [show x.trees.all treeB = false from by rw [List.all_eq_false]; exact ⟨t, hmem, by rw [h]; simp⟩]
      rfl
    by_cases h8 : 8 < t.length
    · have ht : treeB t = false := by unfold treeB; rw [decide_eq_false (by omega)]; rfl
      rw [hno ht]
      simp -implicitDefEqProofs (disch := omega) only [seval, go_sem, e1, e3, ho, hdt, hx, hdm]
      exact ⟨.lit _, hk⟩
    · simp -implicitDefEqProofs (disch := omega) only [seval, go_sem, e1, e3, ho, hdt, hx, hdm]
      refine c_Small5 hbt.1 hbt.2 ?_
      cases ht : (t.all (fun m => decide (m.data.length ≤ 200)) && decide ((t.length : Int) ≤ 60)) with
      | false =>
        have ht2 : treeB t = false := by unfold treeB; rw [ht, Bool.and_false]
        rw [hno ht2]
        simp -implicitDefEqProofs (disch := omega) only [seval, go_sem, e1, e3, ho, hdt, hx, hdm]
        exact ⟨.lit _, hk⟩
      | true =>
        have ht2 : treeB t = true := by unfold treeB; rw [ht, Bool.and_true]; exact decide_eq_true (by omega)
        simp -implicitDefEqProofs (disch := omega) only [seval, go_sem, e1, e3, ho, hdt, hx, hdm]
        exact ⟨n - 1, by omega, i + 1, by omega, e1, rfl, ho, hk, by rw [htk, List.all_append, hall]; simp [ht2]⟩
  · have hall2 : x.trees.all treeB = true := by rw [← List.take_of_length_le (l := x.trees) (i := i) (by omega)]; exact hall
    have hs : smallB x = (decide ((x.trees.length : Int) ≤ 4) && decide ((x.acts.length : Int) ≤ 60)) := by unfold smallB; rw [hall2, Bool.true_and]
    rw [hs]
    by_cases h4 : (x.trees.length : Int) ≤ 4
    · rw [decide_eq_true h4, Bool.true_and]
      simp -implicitDefEqProofs (disch := omega) only [seval, go_sem, e1, e3, ho, hdt, hda]
      exact ⟨.lit _, hk⟩
    · rw [decide_eq_false h4, Bool.false_and]
      simp -implicitDefEqProofs (disch := omega) only [seval, go_sem, e1, e3, ho, hdt, hda]
      exact ⟨.lit _, hk⟩
set_option maxRecDepth 8000 in
set_option maxHeartbeats 1000000 in
theorem c_row16 {ars : List Bs} (ha : ArsB ars) {made : List RowM} (hm : ∀ r ∈ made, RowB r) (hml : made.length ≤ 1000) {x : ActM} {g : Tag} {S : TS} {K : TV → TS → Prop} (hK : K (rowN (rowG ars made x)) S) :
    TCall env 17 [worldV ars, .sl g 4 (dR made), actV x] S K := by
  refine TCall.toPureD (r := rowN (rowG ars made x)) ?_ hK
  have hdr := dR_len made
  have hdb := dBB_len ars
  have hN := names3_ok (x.a.toNat % 3) (Nat.mod_lt _ (by decide))
  obtain ⟨p0, ee, hmv, hp0, hp0l⟩ : ∃ (p0 : Bs) (ee : Int), mkV (names3.getD (x.a.toNat % 3) []) (ars.getD (x.b.toNat % ars.length) []) (riseL (refsM made x.b.toNat (x.more.toNat % 4))) = .tup [.lit (.string (st p0)), .lit (.int .i64 ee)] ∧ rowG ars made x = ⟨(if 250 ≤ x.more.toNat then [UInt8.toBitVec 120] else []) ++ p0, (names3.getD (x.a.toNat % 3) []), (ars.getD (x.b.toNat % ars.length) []), (riseL (refsM made x.b.toNat (x.more.toNat % 4)))⟩ ∧ p0.length ≤ 100 := by
    by_cases hok : refsOk (riseL (refsM made x.b.toNat (x.more.toNat % 4))) = true
    · exact ⟨mkP (names3.getD (x.a.toNat % 3) []) (ars.getD (x.b.toNat % ars.length) []) (riseL (refsM made x.b.toNat (x.more.toNat % 4))), 0, mkV_ok hN.1 hok, by unfold rowG; rw [if_pos hok], by rw [mkP_len]; omega⟩
    · exact ⟨[], 1, by rw [mkV, if_neg (by rw [hN.1]; simp), if_pos (by simpa using hok)], by unfold rowG; rw [if_neg hok], by simp⟩
  rw [hp0]
  rw [worldV_mk, actV_mk]
  refine TCall.w 86 [.cell 6 44] Tryz.func17 rfl rfl rfl rfl (by kernel_rfl) rfl ?_
  simp -implicitDefEqProofs (disch := omega) only [seval, go_sem]
  have hW1 : ∀ o, (((S.push (.cells 35 [.sl .none 1 (gD fW), .sl .none 1 (gD kW), .sl .none 1 (dBB ars), .sl .none 1 (dT names3), .sl .none 1 (dT [path0])])).push (.cells 41 [.lit (w8 x.do_), .lit (w8 x.a), .lit (w8 x.b), .lit (w8 x.more)])).push o).objs S.n = .cells 35 [.sl .none 1 (gD fW), .sl .none 1 (gD kW), .sl .none 1 (dBB ars), .sl .none 1 (dT names3), .sl .none 1 (dT [path0])] := fun o => psh_old0 (psh_old0 (push_self _ _) (Nat.lt_succ_self _)) (Nat.lt_succ_of_lt (Nat.lt_succ_self _))
  have hX1 : ∀ o, (((S.push (.cells 35 [.sl .none 1 (gD fW), .sl .none 1 (gD kW), .sl .none 1 (dBB ars), .sl .none 1 (dT names3), .sl .none 1 (dT [path0])])).push (.cells 41 [.lit (w8 x.do_), .lit (w8 x.a), .lit (w8 x.b), .lit (w8 x.more)])).push o).objs (S.n + 1) = .cells 41 [.lit (w8 x.do_), .lit (w8 x.a), .lit (w8 x.b), .lit (w8 x.more)] := fun o => psh_old0 (push_self (S.push _) _) (Nat.lt_succ_self _)
  refine loW.asRow 7 1 rfl (.inl rfl) ?_
  refine loW_inv (fun n T S' => ∃ (i k : Nat), n + i = min (x.more.toNat % 4) made.length ∧ T 1 = .sl g 4 (dR made) ∧ T 3 = .ptr S.n 0 ∧ T 5 = .ptr (S.n + 1) 0 ∧ T 6 = .ptr (S.n + 1 + 1) 0 ∧ T 7 = .sl (.own k) 1 (dT ((refsM made x.b.toNat (x.more.toNat % 4)).take i)) ∧ T 8 = .lit (.int .i64 (i : Int)) ∧
    S'.objs S.n = .cells 35 [.sl .none 1 (gD fW), .sl .none 1 (gD kW), .sl .none 1 (dBB ars), .sl .none 1 (dT names3), .sl .none 1 (dT [path0])] ∧ S'.objs (S.n + 1) = .cells 41 [.lit (w8 x.do_), .lit (w8 x.a), .lit (w8 x.b), .lit (w8 x.more)] ∧ S'.objs (S.n + 1 + 1) = .cells 44 [.lit (.string (st [])), .lit (.string (st [])), .sl .full 0 [], .sl .full 0 []] ∧ S'.objs k = .lin ∧ S.n + 1 + 1 < k ∧ k < S'.n ∧ Keep S S') (min (x.more.toNat % 4) made.length) ?_ ?_
  · exact ⟨0, S.n + 3, rfl, rfl, rfl, rfl, rfl, rfl, rfl, psh_old0 (hW1 _) (by show S.n < S.n + 3; omega), psh_old0 (hX1 _) (by show S.n + 1 < S.n + 3; omega), psh_old0 (push_self ((S.push _).push _) _) (by show S.n + 1 + 1 < S.n + 3; omega), push_self (((S.push _).push _).push _) _, by omega, Nat.lt_succ_self _, (((Keep.push _ _).push' _).push' _).push' _⟩
  clear hW1 hX1
  rintro n T S2 ⟨i, k, hi, e1, e3, e5, e6, e7, e8, hW, hX, hR, hk, hk3, hkn, hkp⟩
  have hmm : (x.more % 4#8).toNat = x.more.toNat % 4 := by rw [BitVec.toNat_umod]; rfl
  have hxb := x.b.isLt
  by_cases hc : i < min (x.more.toNat % 4) made.length
  · have hml0 : 0 < made.length := by omega
    have hlt : (x.b.toNat + i) % made.length < made.length := Nat.mod_lt _ hml0
    have hrl := refsM_len made x.b.toNat (x.more.toNat % 4)
    have htk := take_succ_D (refsM made x.b.toNat (x.more.toNat % 4)) [] (show i < _ by rw [hrl]; exact hc)
    have hri : (refsM made x.b.toNat (x.more.toNat % 4)).getD i [] = (made.getD ((x.b.toNat + i) % made.length) default).path := by
      unfold refsM
      rw [List.getD_eq_getElem?_getD, List.getElem?_map, List.getElem?_range hc]; rfl
    have hx := dR_get hlt
    have hrb := hm _ (getD_mem (d := default) hlt)
    have htl := dT_len ((refsM made x.b.toNat (x.more.toNat % 4)).take i)
    have htl2 : ((refsM made x.b.toNat (x.more.toNat % 4)).take i).length ≤ 4 := by rw [List.length_take]; omega
    rw [hri] at htk
    have htm : (((x.b.toNat + i : Nat) : Int)).tmod (made.length : Int) = (((x.b.toNat + i) % made.length : Nat) : Int) := (Int.ofNat_tmod _ _).symm
    generalize made.getD ((x.b.toNat + i) % made.length) default = r at *
    rw [rowD_mk] at hx
    simp -implicitDefEqProofs (disch := omega) only [seval, go_sem, e1, e3, e5, e6, e7, e8, hW, hX, hdr, hmm, htm, hx, hk, htl]
    refine ⟨n - 1, by omega, i + 1, S2.n + 1, by omega, e1, e3, e5, e6, ?_, rfl, psh_old0 (psh_old0 ((st_old _ (by omega)).trans hW) (by show S.n < S2.n; omega)) (by show S.n < S2.n + 1; omega), psh_old0 (psh_old0 ((st_old _ (by omega)).trans hX) (by show S.n + 1 < S2.n; omega)) (by show S.n + 1 < S2.n + 1; omega), psh_old0 (psh_old0 ((st_old _ (by omega)).trans hR) (by show S.n + 1 + 1 < S2.n; omega)) (by show S.n + 1 + 1 < S2.n + 1; omega), push_self (TS.push _ _) _, by omega, Nat.lt_succ_self _, ((hkp.set (by omega) _).push' _).push' _⟩
    rw [htk, dT_app]
    rfl
  · have hrl := refsM_len made x.b.toNat (x.more.toNat % 4)
    rw [List.take_of_length_le (by omega)] at e7
    have hq : ¬ i < x.more.toNat % 4 ∨ ¬ i < made.length := by omega
    have harl : 0 < ars.length := List.length_pos_iff.2 ha.ne
    have hal5 := ha.ll
    have hn3 : (dT names3).length = 3 := rfl
    have htm1 : ((x.a.toNat : Int)).tmod 3 = ((x.a.toNat % 3 : Nat) : Int) := (Int.ofNat_tmod _ _).symm
    have htm2 : ((x.b.toNat : Int)).tmod (ars.length : Int) = ((x.b.toNat % ars.length : Nat) : Int) := (Int.ofNat_tmod _ _).symm
    have hx1 := dT_get (xs := names3) (i := x.a.toNat % 3) (Nat.mod_lt _ (by decide))
    have hx2 := dBB_get (l := ars) (i := x.b.toNat % ars.length) (Nat.mod_lt _ harl)
    have h3 : x.a.toNat % 3 < 3 := Nat.mod_lt _ (by decide)
    have h5 : x.b.toNat % ars.length < ars.length := Nat.mod_lt _ harl
    have hWn : ∀ o, (S2.push o).objs S.n = .cells 35 [.sl .none 1 (gD fW), .sl .none 1 (gD kW), .sl .none 1 (dBB ars), .sl .none 1 (dT names3), .sl .none 1 (dT [path0])] := fun o => psh_old0 hW (by omega)
    have hXn : ∀ o, (S2.push o).objs (S.n + 1) = .cells 41 [.lit (w8 x.do_), .lit (w8 x.a), .lit (w8 x.b), .lit (w8 x.more)] := fun o => psh_old0 hX (by omega)
    have hX2 : ∀ o o', ((S2.push o).push o').objs (S.n + 1) = .cells 41 [.lit (w8 x.do_), .lit (w8 x.a), .lit (w8 x.b), .lit (w8 x.more)] := fun o o' => psh_old0 (hXn o) (by show S.n + 1 < S2.n + 1; omega)
    have hR2 : ∀ o o', ((S2.push o).push o').objs (S.n + 1 + 1) = .cells 44 [.lit (.string (st [])), .lit (.string (st [])), .sl .full 0 [], .sl .full 0 []] := fun o o' => psh_old0 (psh_old0 hR (by omega)) (by show S.n + 1 + 1 < S2.n + 1; omega)
    have hP2 : ∀ o o', ((S2.push o).push o').objs (S2.n + 1) = o' := fun o o' => push_self (S2.push o) o'
    have hrll := riseL_len (refsM made x.b.toNat (x.more.toNat % 4))
    have hrpl : ∀ q ∈ riseL (refsM made x.b.toNat (x.more.toNat % 4)), q.length ≤ 100000 := fun q hq => by
      obtain ⟨r, hr, rfl⟩ := List.mem_map.1 (refsM_mem ((riseL_mem _ _).1 hq))
      exact (hm r hr).pt
    have hab : (ars.getD (x.b.toNat % ars.length) []).length ≤ 1000000 := ha.b _ (getD_mem h5)
    have hadd : tvBin Tryz.prog .add 9 (.string (st [UInt8.toBitVec 120])) (.string (st p0)) = some (.string (st (UInt8.toBitVec 120 :: p0))) := str_add _ _ _ _ (by show 1 + p0.length ≤ _; omega)
    generalize (names3.getD (x.a.toNat % 3) []) = nm at *
    generalize (ars.getD (x.b.toNat % ars.length) []) = arc at *
    by_cases hq1 : i < x.more.toNat % 4
    · have hq2 : ¬ i < made.length := by omega
      simp -implicitDefEqProofs (disch := omega) only [seval, go_sem, e1, e3, e5, e6, e7, e8, hW, hX, hdr, hmm, hk]
      refine c_godownref01_Rise ?_ (by rw [hrl]; omega)
      generalize (riseL (refsM made x.b.toNat (x.more.toNat % 4))) = refs at *
      simp -implicitDefEqProofs (disch := omega) only [seval, go_sem, e1, e3, e5, e6, e7, e8, hW, hX, hdr, hmm, hk]
      refine drW_at [(0, 0), (1, 0), (2, 0), (3, 0), (4, 0), (5, 0), (6, 0), (7, 0), (8, 0), (9, 0), (10, 0), (11, 0), (12, 0), (13, 0), (14, 0), (15, 0), (16, 0), (17, 0), (18, 0), (19, 0), (20, 0), (21, 0), (22, 0), (23, 0), (24, 1), (25, 2)] followsN (by kernel_rfl) ?_
      simp -implicitDefEqProofs (disch := omega) only [seval, go_sem, e1, e3, e5, e6, e7, e8, hWn, hXn, hdr, hdb, hmm, hn3, htm1, htm2, hx1, hx2]
      refine c_godownref07_Make ?_ hrpl (by omega) hab (by omega)
      rw [hmv]
      simp -implicitDefEqProofs (disch := omega) only [seval, go_sem, e1, e3, e5, e6, e7, e8, hX2, hR2, hP2, hmm]
      refine cdK_d (fun hcx => ?_) (fun hcx => ?_)
      · simp -implicitDefEqProofs (disch := omega) only [seval, go_sem, e1, e3, e5, e6, e7, e8, hX2, hR2, hP2, hmm, hadd]
        refine ⟨_, resCell (id := S.n + 1 + 1) e6 ti44 (psh_old0 (psh_old0 (TS.set_same' _ _ _) (by show S.n + 1 + 1 < S2.n; omega)) (by show S.n + 1 + 1 < S2.n + 1; omega)) rfl rfl, ?_⟩
        refine ⟨_, ?_, ren_rowN _ _ _, ((hkp.set (by omega) _).push' _).push' _⟩
        rw [if_pos (show 250 ≤ x.more.toNat by omega), rowN_mk]
        exact .aggF (.cons (.refl _) (.cons (.refl _) (.cons (.refl _) (.cons (.sl _ _ _) .nil))))
      · simp -implicitDefEqProofs (disch := omega) only [seval, go_sem, e1, e3, e5, e6, e7, e8, hX2, hR2, hP2, hmm]
        refine ⟨_, resCell (id := S.n + 1 + 1) e6 ti44 (psh_old0 (psh_old0 (TS.set_same' _ _ _) (by show S.n + 1 + 1 < S2.n; omega)) (by show S.n + 1 + 1 < S2.n + 1; omega)) rfl rfl, ?_⟩
        refine ⟨_, ?_, ren_rowN _ _ _, ((hkp.set (by omega) _).push' _).push' _⟩
        rw [if_neg (show ¬ 250 ≤ x.more.toNat by omega), rowN_mk]
        exact .aggF (.cons (.refl _) (.cons (.refl _) (.cons (.refl _) (.cons (.sl _ _ _) .nil))))
    · simp -implicitDefEqProofs (disch := omega) only [seval, go_sem, e1, e3, e5, e6, e7, e8, hW, hX, hdr, hmm, hk]
      refine c_godownref01_Rise ?_ (by rw [hrl]; omega)
      generalize (riseL (refsM made x.b.toNat (x.more.toNat % 4))) = refs at *
      simp -implicitDefEqProofs (disch := omega) only [seval, go_sem, e1, e3, e5, e6, e7, e8, hW, hX, hdr, hmm, hk]
      refine drW_at [(0, 0), (1, 0), (2, 0), (3, 0), (4, 0), (5, 0), (6, 0), (7, 0), (8, 0), (9, 0), (10, 0), (11, 0), (12, 0), (13, 0), (14, 0), (15, 0), (16, 0), (17, 0), (18, 0), (19, 0), (20, 0), (21, 0), (22, 0), (23, 0), (24, 1), (25, 2)] followsN (by kernel_rfl) ?_
      simp -implicitDefEqProofs (disch := omega) only [seval, go_sem, e1, e3, e5, e6, e7, e8, hWn, hXn, hdr, hdb, hmm, hn3, htm1, htm2, hx1, hx2]
      refine c_godownref07_Make ?_ hrpl (by omega) hab (by omega)
      rw [hmv]
      simp -implicitDefEqProofs (disch := omega) only [seval, go_sem, e1, e3, e5, e6, e7, e8, hX2, hR2, hP2, hmm]
      refine cdK_d (fun hcx => ?_) (fun hcx => ?_)
      · simp -implicitDefEqProofs (disch := omega) only [seval, go_sem, e1, e3, e5, e6, e7, e8, hX2, hR2, hP2, hmm, hadd]
        refine ⟨_, resCell (id := S.n + 1 + 1) e6 ti44 (psh_old0 (psh_old0 (TS.set_same' _ _ _) (by show S.n + 1 + 1 < S2.n; omega)) (by show S.n + 1 + 1 < S2.n + 1; omega)) rfl rfl, ?_⟩
        refine ⟨_, ?_, ren_rowN _ _ _, ((hkp.set (by omega) _).push' _).push' _⟩
        rw [if_pos (show 250 ≤ x.more.toNat by omega), rowN_mk]
        exact .aggF (.cons (.refl _) (.cons (.refl _) (.cons (.refl _) (.cons (.sl _ _ _) .nil))))
      · simp -implicitDefEqProofs (disch := omega) only [seval, go_sem, e1, e3, e5, e6, e7, e8, hX2, hR2, hP2, hmm]
        refine ⟨_, resCell (id := S.n + 1 + 1) e6 ti44 (psh_old0 (psh_old0 (TS.set_same' _ _ _) (by show S.n + 1 + 1 < S2.n; omega)) (by show S.n + 1 + 1 < S2.n + 1; omega)) rfl rfl, ?_⟩
        refine ⟨_, ?_, ren_rowN _ _ _, ((hkp.set (by omega) _).push' _).push' _⟩
        rw [if_neg (show ¬ 250 ≤ x.more.toNat by omega), rowN_mk]
        exact .aggF (.cons (.refl _) (.cons (.refl _) (.cons (.refl _) (.cons (.sl _ _ _) .nil))))
end Go.Proofs.YtoldjfappfbfbaaGreatDoor
namespace Go.Proofs.YtoldjfappfbfbaaGreatDoor
open Go.RowKit TL
set_option maxRecDepth 8000 in
set_option maxHeartbeats 1000000 in
theorem c_ClaimOlder {x : PlanM} (hb : PlanB x) {m : BitVec 8} {by_ : BitVec 64} {S : TS} {K : TV → TS → Prop} (hK : K (.lit (.bool true)) S) : TCall env 3 [planV x, .lit (w8 m), .lit (w64 by_)] S K := by
  refine TCall.toPure (r := .lit (.bool true)) ?_ hK
  have hda := actL_len x.acts
  have hl' : x.acts.length ≤ 140737488355328 := hb.al
  rw [planV_mk]
  refine TCall.w 140 [.tmp 6] Tryz.func3 rfl rfl rfl rfl (by kernel_rfl) rfl ?_
  simp -implicitDefEqProofs (disch := omega) only [seval, go_sem]
  refine c_touched ?_
  have ho : (S.push (.cells 25 [.sl .none 1 (treeL x.trees), .sl .none 4 (actL x.acts)])).objs S.n = .cells 25 [.sl .none 1 (treeL x.trees), .sl .none 4 (actL x.acts)] := push_self _ _
  have hk : Keep S (S.push (.cells 25 [.sl .none 1 (treeL x.trees), .sl .none 4 (actL x.acts)])) := Keep.push _ _
  have hn : S.n < (S.push (.cells 25 [.sl .none 1 (treeL x.trees), .sl .none 4 (actL x.acts)])).n := Nat.lt_succ_self _
  generalize S.push _ = S1 at *
  simp -implicitDefEqProofs (disch := omega) only [seval, go_sem, ho, hda]
  refine c_small16 hb ?_
  cases hs : smallB x with
  | false =>
    simp -implicitDefEqProofs (disch := omega) only [seval, go_sem, ho, hda]
    refine c_touched ?_
    simp -implicitDefEqProofs (disch := omega) only [seval, go_sem]
    exact ⟨.lit _, hk⟩
  | true =>
    by_cases h20 : 20 < x.acts.length
    · simp -implicitDefEqProofs (disch := omega) only [seval, go_sem, ho, hda]
      refine c_touched ?_
      simp -implicitDefEqProofs (disch := omega) only [seval, go_sem]
      exact ⟨.lit _, hk⟩
    by_cases h0 : x.acts.length = 0
    · simp -implicitDefEqProofs (disch := omega) only [seval, go_sem, ho, hda]
      refine c_touched ?_
      simp -implicitDefEqProofs (disch := omega) only [seval, go_sem]
      exact ⟨.lit _, hk⟩
    by_cases hby : by_ = 0#64
    · have hz : ((by_.toNat : Int) = 0) := by rw [hby]; rfl
      simp -implicitDefEqProofs (disch := omega) only [seval, go_sem, ho, hda]
      refine c_touched ?_
      simp -implicitDefEqProofs (disch := omega) only [seval, go_sem]
      exact ⟨.lit _, hk⟩
    have hnz : ¬ ((by_.toNat : Int) = 0) := fun h => hby (BitVec.eq_of_toNat_eq (Int.ofNat_inj.1 h))
    have hps := small_of hs
    simp -implicitDefEqProofs (disch := omega) only [seval, go_sem, ho, hda]
    refine c_Begin (Nat.le_trans hps.tl (by decide)) hps.ml hps.dl fun ars har => ?_
    rw [worldV_mk]
    simp -implicitDefEqProofs (disch := omega) only [seval, go_sem, ho, hda]
    have hoW : (S1.push (.cells 35 [.sl .none 1 (gD fW), .sl .none 1 (gD kW), .sl .none 1 (dBB ars), .sl .none 1 (dT names3), .sl .none 1 (dT [path0])])).objs S1.n = .cells 35 [.sl .none 1 (gD fW), .sl .none 1 (gD kW), .sl .none 1 (dBB ars), .sl .none 1 (dT names3), .sl .none 1 (dT [path0])] := push_self _ _
    have hoP : (S1.push (.cells 35 [.sl .none 1 (gD fW), .sl .none 1 (gD kW), .sl .none 1 (dBB ars), .sl .none 1 (dT names3), .sl .none 1 (dT [path0])])).objs S.n = .cells 25 [.sl .none 1 (treeL x.trees), .sl .none 4 (actL x.acts)] := psh_old0 ho hn
    have hkW : Keep S (S1.push (.cells 35 [.sl .none 1 (gD fW), .sl .none 1 (gD kW), .sl .none 1 (dBB ars), .sl .none 1 (dT names3), .sl .none 1 (dT [path0])])) := hk.push' _
    have hnW : S1.n < (S1.push (.cells 35 [.sl .none 1 (gD fW), .sl .none 1 (gD kW), .sl .none 1 (dBB ars), .sl .none 1 (dT names3), .sl .none 1 (dT [path0])])).n := Nat.lt_succ_self _
    generalize S1.push (.cells 35 [.sl .none 1 (gD fW), .sl .none 1 (gD kW), .sl .none 1 (dBB ars), .sl .none 1 (dT names3), .sl .none 1 (dT [path0])]) = S1b at *
    refine c_Store_new fun S2 s I h1 hf1 hk1 => ?_
    have hoW2 := (hk1.2 _ hnW).trans hoW
    have hoP2 := (hk1.2 _ (Nat.lt_trans hn hnW)).trans hoP
    have hn2 := hk1.1
    have hkS := hkW.trans hk1
    simp -implicitDefEqProofs (disch := omega) only [seval, go_sem, ho, hda]
    refine loW.asRow 9 4 rfl (.inl rfl) ?_
    refine loW_inv (fun n T S' => ∃ (i k : Nat) (made : List RowM), n + i = x.acts.length ∧ made.length = i ∧ MadeOk made ∧ T 1 = .lit (w8 m) ∧ T 2 = .lit (w64 by_) ∧ T 3 = .ptr S.n 0 ∧ T 7 = .ptr S1.n 0 ∧ T 8 = .ptr s 0 ∧ T 9 = .sl (.own k) 4 (dR made) ∧ T 10 = .lit (.int .i64 (i : Int)) ∧ S'.objs k = .lin ∧ S2.n ≤ k ∧ k < S'.n ∧ Keep S2 S') x.acts.length ?_ ?_
    · exact ⟨0, S2.n, [], rfl, rfl, MadeOk.nil, rfl, rfl, rfl, rfl, rfl, rfl, rfl, push_self _ _, Nat.le_refl _, Nat.lt_succ_self _, Keep.push _ _⟩
    rintro n T S3 ⟨i, k, made, hi, hmi, hmo, e1, e2, e3, e7, e8, e9, e10, hok, hk2, hkn, hk3⟩
    have hn3 := hk3.1
    have hoW3 := (hk3.2 _ (by omega)).trans hoW2
    have hoP3 := (hk3.2 _ (by omega)).trans hoP2
    have hdr := dR_len made
    by_cases hc : i < x.acts.length
    · have hx := actL_get hc
      generalize x.acts.getD i default = y at *
      rw [actD_mk] at hx
      simp -implicitDefEqProofs (disch := omega) only [seval, go_sem, e1, e2, e3, e7, e8, e9, e10, hoP3, hoW3, hda, hx]
      have hy4 : (y.more % 4#8).toNat < 4 := by rw [BitVec.toNat_umod]; exact Nat.mod_lt _ (by decide)
      have hgr : rowG ars made ⟨y.do_, y.a, y.b, y.more % 4#8⟩ = rowM ars made y.a.toNat y.b.toNat ((y.more % 4#8).toNat % 4) := rowG_ok hmo.ip (by show (y.more % 4#8).toNat < 250; omega)
      have hsn := hmo.snoc har.b y.a.toNat y.b.toNat (n := (y.more % 4#8).toNat % 4) (by omega)
      rw [← hgr] at hsn
      refine c_row16 (x := ⟨y.do_, y.a, y.b, y.more % 4#8⟩) har hmo.rb (by omega) ?_
      generalize rowG ars made ⟨y.do_, y.a, y.b, y.more % 4#8⟩ = r at *
      have hok' : ∀ o, (S3.push o).objs k = .lin := fun o => psh_old0 hok hkn
      rw [rowN_mk]
      simp -implicitDefEqProofs (disch := omega) only [seval, go_sem, e1, e2, e3, e7, e8, e9, e10, hok', hdr]
      refine ⟨rfl, n - 1, by omega, i + 1, S3.n + 1, made ++ [r], by omega, by simp [hmi], hsn, e1, e2, e3, e7, e8, ?_, rfl, push_self (TS.push _ _) _, by omega, Nat.lt_succ_self _, ((hk3.set hk2 _).push' _).push' _⟩
      rw [dR_app]; rfl
    · have hil : i = x.acts.length := by omega
      obtain ⟨p2, pL, pr, pv, pst⟩ := hmo.newPut (by omega)
      have g3 : StOk S3 s I .new := StG.keep h1 hk3
      simp -implicitDefEqProofs (disch := omega) only [seval, go_sem, e1, e2, e3, e7, e8, e9, e10, hoP3, hoW3, hda]
      refine c_Put g3 .nil hmo.rb (.inl rfl) (by omega) fun S4 I4 g4 t4 => ?_
      have hiv := Inv.put Inv.new hmo.rb
      rw [p2]
      generalize (putM .new made).1 = M at *
      simp -implicitDefEqProofs (disch := omega) only [seval, go_sem, e1, e2, e3, e7, e8, e9, e10]
      refine c_Book_new fun S5 b F h5 hF5 hk5 => ?_
      have g5 := StG.keep g4 hk5
      simp -implicitDefEqProofs (disch := omega) only [seval, go_sem, e1, e2, e3, e7, e8, e9, e10]
      refine loW_inv (fun n T S' => ∃ (j : Nat) (l : Int → List Cl) (F' : Nat → Prop), n + j = made.length ∧ BkS S' b l F' ∧ l 1 = (made.take j).map (fun r => (r.path, stampT M.tc r.path)) ∧ l 2 = (made.take j).map (fun r => (r.path, stampT M.tc r.path)) ∧ (∀ id, F' id → S4.n ≤ id) ∧ T 1 = .lit (w8 m) ∧ T 2 = .lit (w64 by_) ∧ T 8 = .ptr s 0 ∧ T 9 = .sl (.own k) 4 (dR made) ∧ T 12 = .ptr b 0 ∧ T 13 = .lit (.int .i64 (j : Int)) ∧ Keep S4 S') made.length ?_ ?_
      · exact ⟨0, _, F, rfl, h5, rfl, rfl, hF5, e1, e2, e8, e9, rfl, rfl, hk5⟩
      rintro n T S6 ⟨j, l, F6, hj, h6, hl1, hl2, hF6, f1, f2, f8, f9, f12, f13, hk6⟩
      have g6 := StG.keep g4 hk6
      have hll1 : (l 1).length ≤ 20 := by rw [hl1, List.length_map, List.length_take]; omega
      have hll2 : (l 2).length ≤ 20 := by rw [hl2, List.length_map, List.length_take]; omega
      by_cases hcj : j < made.length
      · have hx := dR_get hcj
        have htk := take_succ_D made default hcj
        generalize made.getD j default = r at *
        rw [rowD_mk] at hx
        simp -implicitDefEqProofs (disch := omega) only [seval, go_sem, f1, f2, f8, f9, f12, f13, hdr, hx]
        refine drW_at [(0, 0), (1, 0), (2, 0), (3, 0), (4, 0), (5, 0), (6, 0), (7, 0), (8, 0), (9, 0), (10, 0), (11, 0), (12, 1), (13, 2)] followsN (by kernel_rfl) ?_
        simp -implicitDefEqProofs (disch := omega) only [seval, go_sem, f1, f2, f8, f9, f12, f13, hdr, hx]
        refine c_StampG g6 ?_
        simp -implicitDefEqProofs (disch := omega) only [seval, go_sem, f1, f2, f8, f9, f12, f13, hdr, hx]
        refine c_Note2 h6 (fun S7 F7 l7 h7 hl7 hlo7 fr7 sb7 => ?_) (by omega) (by omega)
        have hk7 : Keep S4 S7 := ⟨Nat.le_trans hk6.1 fr7.n, fun id hid => (fr7.o id (Nat.lt_of_lt_of_le hid hk6.1) (fun hf => by have := hF6 id hf; omega)).trans (hk6.2 id hid)⟩
        have g7 := StG.keep g4 hk7
        simp -implicitDefEqProofs (disch := omega) only [seval, go_sem, f1, f2, f8, f9, f12, f13, hdr, hx]
        refine drW_at [(0, 0), (1, 0), (2, 0), (3, 0), (4, 0), (5, 0), (6, 0), (7, 0), (8, 0), (9, 0), (10, 0), (11, 0), (12, 1), (13, 2)] followsN (by kernel_rfl) ?_
        simp -implicitDefEqProofs (disch := omega) only [seval, go_sem, f1, f2, f8, f9, f12, f13, hdr, hx]
        refine c_StampG g7 ?_
        simp -implicitDefEqProofs (disch := omega) only [seval, go_sem, f1, f2, f8, f9, f12, f13, hdr, hx]
        refine c_Note2 h7 (fun S8 F8 l8 h8 hl8 hlo8 fr8 sb8 => ?_) (by omega) (by rw [hlo7 2 (by omega)]; omega)
        have hF7 : ∀ id, F7 id → S4.n ≤ id := fun id hf => by
          rcases sb7 id hf with h | h
          · exact hF6 id h
          · have := hk6.1; omega
        have hk8 : Keep S4 S8 := ⟨Nat.le_trans hk7.1 fr8.n, fun id hid => (fr8.o id (Nat.lt_of_lt_of_le hid hk7.1) (fun hf => by have := hF7 id hf; omega)).trans (hk7.2 id hid)⟩
        simp -implicitDefEqProofs (disch := omega) only [seval, go_sem, f1, f2, f8, f9, f12, f13, hdr, hx]
        refine ⟨n - 1, by omega, j + 1, l8, F8, by omega, h8, ?_, ?_, ?_, f1, f2, f8, f9, f12, rfl, hk8⟩
        · rw [hlo8 1 (by omega), hl7, hl1, htk, List.map_append]; rfl
        · rw [hl8, hlo7 2 (by omega), hl2, htk, List.map_append]; rfl
        · intro id hf
          rcases sb8 id hf with h | h
          · exact hF7 id h
          · have := hk7.1; omega
      · rw [List.take_of_length_le (by omega)] at hl1 hl2
        have hlt : m.toNat % made.length < made.length := Nat.mod_lt _ (by omega)
        have htm : ((m.toNat : Int)).tmod (made.length : Int) = ((m.toNat % made.length : Nat) : Int) := (Int.ofNat_tmod _ _).symm
        have hx := dR_get hlt
        generalize made.getD (m.toNat % made.length) default = r at *
        rw [rowD_mk] at hx
        simp -implicitDefEqProofs (disch := omega) only [seval, go_sem, f1, f2, f8, f9, f12, f13, hdr, htm, hx]
        refine c_StampG g6 ?_
        simp -implicitDefEqProofs (disch := omega) only [seval, go_sem, f1, f2, f8, f9, f12, f13, hdr, htm, hx]
        refine c_Note2 h6 (fun S7 F7 l7 h7 hl7 hlo7 fr7 sb7 => ?_) (by omega) (by omega)
        have hk7 : Keep S4 S7 := ⟨Nat.le_trans hk6.1 fr7.n, fun id hid => (fr7.o id (Nat.lt_of_lt_of_le hid hk6.1) (fun hf => by have := hF6 id hf; omega)).trans (hk6.2 id hid)⟩
        have g7 := StG.keep g4 hk7
        simp -implicitDefEqProofs (disch := omega) only [seval, go_sem, f1, f2, f8, f9, f12, f13, hdr, hx]
        refine c_FreshB h7 g7 ?_ (by rw [hlo7 1 (by omega)]; omega)
        rw [hlo7 1 (by omega), hl1, show (made.map (fun r => (r.path, stampT M.tc r.path))).all (fun x => decide (stampT M.tc x.1 = x.2)) = true from by simp]
        simp -implicitDefEqProofs (disch := omega) only [seval, go_sem, f1, f2, f8, f9, f12, f13, hdr, hx]
        refine c_FreshB h7 g7 ?_ (by rw [hl7, List.length_append, List.length_singleton]; omega)
        rw [hl7, List.all_append, show ([(r.path, stampT M.tc r.path ^^^ by_)].all fun x => decide (stampT M.tc x.1 = x.2)) = false from by
          simp only [List.all_cons, List.all_nil, Bool.and_true, decide_eq_false_iff_not]
          intro h
          apply hby
          have h2 := congrArg (fun z => stampT M.tc r.path ^^^ z) h
          simp only [BitVec.xor_self] at h2
          rw [← BitVec.xor_assoc, BitVec.xor_self, BitVec.zero_xor] at h2
          exact h2.symm, Bool.and_false]
        simp -implicitDefEqProofs (disch := omega) only [seval, go_sem, f1, f2, f8, f9, f12, f13, hdr, hx]
        refine c_OfB h7 ?_ (by rw [hl7, List.length_append, List.length_singleton]; omega)
        have hdc : (dC (l7 2)).length = made.length + 1 := by rw [hl7, dC_len, List.length_append, hl2, List.length_map]; rfl
        simp -implicitDefEqProofs (disch := omega) only [seval, go_sem, f1, f2, f8, f9, f12, f13, hdr, hx, hdc]
        have hkA : Keep S S3 := hkS.trans hk3
        refine ⟨.lit _, Nat.le_trans hkA.1 (Nat.le_trans t4.fr.n hk7.1), fun id hid => ?_⟩
        rw [hk7.2 id (Nat.lt_of_lt_of_le hid (Nat.le_trans hkA.1 t4.fr.n)), t4.fr.o id (Nat.lt_of_lt_of_le hid hkA.1) (fun hf => by have := hf1 id hf; have := hkW.1; omega), hkA.2 id hid]
end Go.Proofs.YtoldjfappfbfbaaGreatDoor
