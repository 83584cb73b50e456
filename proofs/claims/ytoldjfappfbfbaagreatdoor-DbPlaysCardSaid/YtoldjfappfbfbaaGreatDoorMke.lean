/-
  Lemmas of the claim, part 5: Qh Qi Qj Qk Ql Qm Qn Qo Qp Qq Qr Qs Qt Qu Qv Sa Ta Tb Rb Rc Rd Re Rf Tc Td Tf.
-/
import Derived.Test.YtoldjfappfbfbaaGreatDoorMkd
set_option linter.unusedVariables false
set_option linter.unusedSimpArgs false
namespace Go.Proofs.YtoldjfappfbfbaaGreatDoor
open Go.RowKit TL
structure StNe (s tab rm k bk rt sm : Nat) : Prop where
 s_tab : s ≠ tab
 s_rm : s ≠ rm
 s_k : s ≠ k
 s_bk : s ≠ bk
 s_rt : s ≠ rt
 s_sm : s ≠ sm
 tab_rm : tab ≠ rm
 tab_k : tab ≠ k
 tab_bk : tab ≠ bk
 tab_rt : tab ≠ rt
 tab_sm : tab ≠ sm
 rm_k : rm ≠ k
 rm_bk : rm ≠ bk
 rm_rt : rm ≠ rt
 rm_sm : rm ≠ sm
 k_bk : k ≠ bk
 k_rt : k ≠ rt
 k_sm : k ≠ sm
 bk_rt : bk ≠ rt
 bk_sm : bk ≠ sm
 rt_sm : rt ≠ sm
theorem nodup7 {s tab rm k bk rt sm : Nat} : [s, tab, rm, k, bk, rt, sm].Nodup ↔ StNe s tab rm k bk rt sm := by
 simp only [List.nodup_cons, List.mem_cons, List.not_mem_nil, or_false, not_or, List.nodup_nil, and_true, not_false_eq_true]
 constructor
 · rintro ⟨⟨a1, a2, a3, a4, a5, a6⟩, ⟨b1, b2, b3, b4, b5⟩, ⟨c1, c2, c3, c4⟩, ⟨d1, d2, d3⟩, ⟨e1, e2⟩, f1⟩
   exact ⟨a1, a2, a3, a4, a5, a6, b1, b2, b3, b4, b5, c1, c2, c3, c4, d1, d2, d3, e1, e2, f1⟩
 · rintro ⟨a1, a2, a3, a4, a5, a6, b1, b2, b3, b4, b5, c1, c2, c3, c4, d1, d2, d3, e1, e2, f1⟩
   exact ⟨⟨a1, a2, a3, a4, a5, a6⟩, ⟨b1, b2, b3, b4, b5⟩, ⟨c1, c2, c3, c4⟩, ⟨d1, d2, d3⟩, ⟨e1, e2⟩, f1⟩
structure StTo (S S' : TS) (s : Nat) (I I' : StI) : Prop where
 fr : Frm S S' (stF s I)
 sub : ∀ id, stF s I' id -> stF s I id ∨ S.n <= id
theorem StTo.refl (S : TS) (s : Nat) (I : StI) : StTo S S s I I := ⟨Frm.refl _ _, fun _ h => .inl h⟩
theorem StTo.trans {S S1 S2 : TS} {s : Nat} {I I1 I2 : StI} (h : StTo S S1 s I I1) (k : StTo S1 S2 s I1 I2) : StTo S S2 s I I2 :=
 ⟨h.fr.trans k.fr h.sub, fun id hi => by
  rcases k.sub id hi with h1 | h1
  · exact h.sub id h1
  · exact .inr (Nat.le_trans h.fr.n h1)⟩
theorem StTo.of_push {S S' : TS} {s : Nat} {I I' : StI} {o : TObj} (h : StTo (S.push o) S' s I I') : StTo S S' s I I' :=
 ⟨h.fr.of_push, fun id hi => by
  rcases h.sub id hi with h1 | h1
  · exact .inl h1
  · exact .inr (Nat.le_of_succ_le h1)⟩
theorem StTo.push {S S' : TS} {s : Nat} {I I' : StI} (h : StTo S S' s I I') (o : TObj) : StTo S (S'.push o) s I I' := ⟨h.fr.push o, h.sub⟩
theorem StTo.set {S S' : TS} {s : Nat} {I I' : StI} (h : StTo S S' s I I') {id : Nat} (hid : S.n <= id) (o : TObj) : StTo S (S'.set id o) s I I' := ⟨h.fr.set (.inr hid) o, h.sub⟩
theorem StTo.not {S S' : TS} {s : Nat} {I I' : StI} (h : StTo S S' s I I') {id : Nat} (hi : id < S.n) (hn : ¬ stF s I id) : ¬ stF s I' id := fun hh => by
 rcases h.sub id hh with h1 | h1
 · exact hn h1
 · omega
section
variable {S : TS} {s : Nat} {I : StI} {L : List RowM} {jd : List D} {B : Bs -> Bs -> Bool} {roots : List Bs} {ver : BitVec 64} {tc : List (Bs × BitVec 64)}
theorem StG.ne (h : StG S s I L jd B roots ver tc) : StNe s I.tab I.rm I.k I.bk I.rt I.sm := nodup7.1 h.nd
theorem StG.nb' (h : StG S s I L jd B roots ver tc) {q : Bs} {id : Nat} (hq : I.bf q = some id) : id ≠ s /\ id ≠ I.tab /\ id ≠ I.rm /\ id ≠ I.k /\ id ≠ I.bk /\ id ≠ I.rt /\ id ≠ I.sm := by
 have := h.nb q id hq
 simpa only [List.mem_cons, List.not_mem_nil, or_false, not_or] using this
theorem StG.setTab (h : StG S s I L jd B roots ver tc) {S' : TS} {k' : Nat} {L' : List RowM} {jd' : List D} (t : TabOk S' I.tab I.rm k' L' jd') (f : Frm S S' (tabF I.tab I.rm I.k)) (hk : S.n <= k' ∨ k' = I.k) :
 StG S' s { I with k := k' } L' jd' B roots ver tc /\ StTo S S' s I { I with k := k' } := by
 have ne := h.ne
 obtain ⟨l1, l2, l3, l4⟩ := h.lt
 obtain ⟨t1, t2, t3⟩ := h.tb.lt
 have hn := f.n
 have n1 := ne.s_k
 have n2 := ne.tab_k
 have n3 := ne.rm_k
 have n4 := ne.k_bk
 have n5 := ne.k_rt
 have n6 := ne.k_sm
 have hnot : ∀ id, id < S.n -> id ≠ I.tab -> id ≠ I.rm -> id ≠ I.k -> S'.objs id = S.objs id := fun id hi a b c => f.o id hi fun hh => by rcases hh with e | e | e; exact a e; exact b e; exact c e
 refine ⟨⟨(hnot s l1 ne.s_tab ne.s_rm ne.s_k).trans h.os, t, h.bk.fr hn (hnot _ l2 ne.tab_bk.symm ne.rm_bk.symm ne.k_bk.symm) (fun q id hq => ?_), h.rt.fr (hnot _ l3 ne.tab_rt.symm ne.rm_rt.symm ne.k_rt.symm), ?_, ⟨by omega, by show I.bk < _; omega, by show I.rt < _; omega, by show I.sm < _; omega⟩, nodup7.2 ?_, fun q id hq => ?_⟩, ⟨f.n, fun id hi hf => f.o id hi fun hh => hf ?_⟩, fun id hi => ?_⟩
 · obtain ⟨b1, b2, b3, b4, b5, b6, b7⟩ := h.nb' hq
   exact hnot id (h.bk.yes q id hq).2 b2 b3 b4
 · obtain ⟨es, c, ks, a, b, d⟩ := h.sm
   exact ⟨es, c, ks, (hnot _ l4 ne.tab_sm.symm ne.rm_sm.symm ne.k_sm.symm).trans a, b, d⟩
 · exact ⟨ne.s_tab, ne.s_rm, by show s ≠ k'; omega, ne.s_bk, ne.s_rt, ne.s_sm, ne.tab_rm, by show I.tab ≠ k'; omega, ne.tab_bk, ne.tab_rt, ne.tab_sm, by show I.rm ≠ k'; omega, ne.rm_bk, ne.rm_rt, ne.rm_sm, by show k' ≠ I.bk; omega, by show k' ≠ I.rt; omega, by show k' ≠ I.sm; omega, ne.bk_rt, ne.bk_sm, ne.rt_sm⟩
 · obtain ⟨b1, b2, b3, b4, b5, b6, b7⟩ := h.nb' hq
   have := (h.bk.yes q id hq).2
   simp only [List.mem_cons, List.not_mem_nil, or_false, not_or]
   exact ⟨b1, b2, b3, by omega, b5, b6, b7⟩
 · rcases hh with e | e | e <;> (left; subst e; simp)
 · rcases hi with hi | hi
   · simp only [List.mem_cons, List.not_mem_nil, or_false] at hi
     rcases hi with e | e | e | e | e | e | e
     all_goals first
      | (right; omega)
      | (left; left; subst e; simp; done)
      | (subst e; rcases hk with hk | hk; exact .inr hk; left; left; rw [hk]; simp)
   · exact .inl (.inr hi)
theorem StG.setSm (h : StG S s I L jd B roots ver tc) {es : Ents} {clock : Nat} {ks : List Bs} {tc' : List (Bs × BitVec 64)} (mo : MapOk kS es clock ks) (hg : ∀ p, (getM kS es p).getD (.lit (w64 0#64)) = .lit (w64 (stampT tc' p))) :
 StG (S.set I.sm (.map es clock)) s I L jd B roots ver tc' := by
 have ne := h.ne
 obtain ⟨l1, l2, l3, l4⟩ := h.lt
 refine ⟨(st_old _ ne.s_sm).trans h.os, h.tb.fr (Nat.le_refl _) (fun id hi => st_old _ ?_), h.bk.fr (Nat.le_refl _) (st_old _ ne.bk_sm) (fun q id hq => st_old _ (h.nb' hq).2.2.2.2.2.2), h.rt.fr (st_old _ ne.rt_sm), ⟨es, clock, ks, TS.set_same' _ _ _, mo, hg⟩, h.lt, h.nd, h.nb⟩
 rcases hi with e | e | e
 · rw [e]; exact ne.tab_sm
 · rw [e]; exact ne.rm_sm
 · rw [e]; exact ne.k_sm
theorem StG.setVer (h : StG S s I L jd B roots ver tc) (ver' : BitVec 64) : StG (S.set s (.cells 114 [.ptr I.tab 0, .mp I.bk, .mp I.rt, .mp I.sm, .lit (w64 ver')])) s I L jd B roots ver' tc := by
 have ne := h.ne
 refine ⟨TS.set_same' _ _ _, h.tb.fr (Nat.le_refl _) (fun id hi => st_old _ ?_), h.bk.fr (Nat.le_refl _) (st_old _ ne.s_bk.symm) (fun q id hq => st_old _ (h.nb' hq).1), h.rt.fr (st_old _ ne.s_rt.symm), ?_, h.lt, h.nd, h.nb⟩
 · rcases hi with e | e | e
   · rw [e]; exact ne.s_tab.symm
   · rw [e]; exact ne.s_rm.symm
   · rw [e]; exact ne.s_k.symm
 · obtain ⟨es, c, ks, a, b, d⟩ := h.sm
   exact ⟨es, c, ks, (st_old _ ne.s_sm.symm).trans a, b, d⟩
theorem StG.setRt (h : StG S s I L jd B roots ver tc) {o : TObj} {roots' : List Bs} (hs : SetOk (S.set I.rt o) I.rt fun p => decide (p ∈ roots')) : StG (S.set I.rt o) s I L jd B roots' ver tc := by
 have ne := h.ne
 refine ⟨(st_old _ ne.s_rt).trans h.os, h.tb.fr (Nat.le_refl _) (fun id hi => st_old _ ?_), h.bk.fr (Nat.le_refl _) (st_old _ ne.bk_rt) (fun q id hq => st_old _ (h.nb' hq).2.2.2.2.2.1), hs, ?_, h.lt, h.nd, h.nb⟩
 · rcases hi with e | e | e
   · rw [e]; exact ne.tab_rt
   · rw [e]; exact ne.rm_rt
   · rw [e]; exact ne.k_rt
 · obtain ⟨es, c, ks, a, b, d⟩ := h.sm
   exact ⟨es, c, ks, (st_old _ ne.rt_sm.symm).trans a, b, d⟩
theorem StTo.own (h : StG S s I L jd B roots ver tc) {id : Nat} (hi : stF s I id) (o : TObj) : StTo S (S.set id o) s I I := ⟨(Frm.refl S _).set (.inl hi) o, fun _ h => .inl h⟩
theorem stF_sm (s : Nat) (I : StI) : stF s I I.sm := .inl (by simp)
theorem stF_rt (s : Nat) (I : StI) : stF s I I.rt := .inl (by simp)
theorem stF_bk (s : Nat) (I : StI) : stF s I I.bk := .inl (by simp)
theorem stF_s (s : Nat) (I : StI) : stF s I s := .inl (by simp)
theorem c_touchG {g : Tag} {sz : Nat} {l : List Bs} {K : TV -> TS -> Prop} (h : StG S s I L jd B roots ver tc) (hK : ∀ S', StG S' s I L jd B roots ver (tc ++ l.map fun p => (p, ver)) -> StTo S S' s I I -> S'.n = S.n -> K (.tup []) S') (hz : sz = 1 ∨ l = []) (hl : l.length <= 1000000 := by omega) :
 TCall env 74 [.ptr s 0, .sl g sz (dT l)] S K := by
 obtain ⟨es, clock, ks, hm, mo, hg⟩ := h.sm
 refine c_touch h.os hm mo h.ne.s_sm (fun es' clock' ks' mo' hg' => ?_) hz hl
 refine hK _ (h.setSm mo' fun p => ?_) (.own h (stF_sm _ _) _) rfl
 rw [hg', stampT_app]
 split
 · rfl
 · exact hg p
end
end Go.Proofs.YtoldjfappfbfbaaGreatDoor
namespace Go.Proofs.YtoldjfappfbfbaaGreatDoor
open Go.RowKit TL
theorem jcells : ∀ (fr : List RowM) (i : Nat) (hi : i < fr.length), ((cellsD (fr.map fun r => jE r.path none)).drop (i * 6)).take 6 = [.lit (.string (st (fr[i]).path)), .lit (.string (st [])), .lit (.string (st [])), .sl .none 0 [], .sl .none 0 [], .lit (.bool false)]
 | [], i, hi => by simp at hi
 | r :: fr, 0, _ => rfl
 | r :: fr, i + 1, hi => by
  have e : (i + 1) * 6 = i * 6 + 6 := by omega
  rw [e, List.map_cons, cellsD_cons]
  have e2 : ((cellD (jE r.path none) ++ cellsD (fr.map fun r => jE r.path none)).drop (i * 6 + 6)) = (cellsD (fr.map fun r => jE r.path none)).drop (i * 6) := by
   rw [Nat.add_comm, ← List.drop_drop]; rfl
  rw [e2, jcells fr i (by simpa using hi)]
  rfl
theorem jlen (fr : List RowM) : (cellsD (fr.map fun r => jE r.path none)).length = fr.length * 6 := by
 induction fr with
 | nil => rfl
 | cons r fr ih => rw [List.map_cons, cellsD_cons, List.length_append, ih, List.length_cons]; show 6 + _ = _; omega
theorem dropP_last {A : List RowM} {r : RowM} (h : (pathsOf (A ++ [r])).Nodup) : dropP (A ++ [r]) r.path = A := by
 unfold dropP
 rw [List.filter_append]
 have h1 : [r].filter (fun x => !decide (x.path = r.path)) = [] := by simp
 rw [h1, List.append_nil]
 apply List.filter_eq_self.2
 intro x hx
 simp only [pathsOf, List.map_append, List.nodup_append] at h
 have := h.2.2 x.path (List.mem_map.2 ⟨x, hx, rfl⟩) r.path (by simp)
 simpa using this
theorem Gh.trunc {S : TS} {id e : Nat} {cs : List TV} (hobj : S.objs id = .cells e cs) (n : Nat) : Gh S (S.set id (.cells e (cs.take n))) := fun _ c _ h => ⟨c, h.trunc hobj n, Mono.refl _ _⟩
set_option maxRecDepth 8000 in
set_option maxHeartbeats 1000000 in
theorem c_tab_Undo {S : TS} {tab rm k : Nat} {L fr : List RowM} {K : TV -> TS -> Prop} (h : TabOk S tab rm k (L ++ fr) (fr.map fun r => jE r.path none)) (hnd : (pathsOf (L ++ fr)).Nodup) (hfl : fr.length <= 1000000)
 (hK : ∀ S', TabOk S' tab rm k L [] -> Frm S S' (tabF tab rm k) -> K (.tup []) S') : TCall env 63 [.ptr tab 0, .lit (.int .i64 0)] S K := by
 refine TCall.gh ?_
 obtain ⟨htl, hml, hkl⟩ := h.lt
 obtain ⟨hn1, hn2, hn3⟩ := h.ne
 have hjl := jlen fr
 refine TCall.w 49 [] Tryz.func63 rfl rfl rfl rfl (by kernel_rfl) rfl ?_
 simp -implicitDefEqProofs (disch := omega) only [seval, go_sem]
 refine loW_inv (fun n T S1 => n <= fr.length /\ T 0 = .ptr tab 0 /\ T 1 = .lit (.int .i64 0) /\ Frm S S1 (tabF tab rm k) /\ S1.objs tab = .cells 168 [.mp rm, .vs k 0 6 n] /\ S1.objs k = .cells 173 (cellsD (fr.map fun r => jE r.path none)) ∧
  ∃ es clock ks, MapRow S1 rm (L ++ fr.take n) es clock ks) fr.length ?_ ?_
 · refine ⟨Nat.le_refl _, rfl, rfl, Frm.refl _ _, by rw [h.ot, List.length_map], h.oj, ?_⟩
   rw [List.take_length]; exact h.om
 rintro n T S1 ⟨hn, h0, h1, f1, ht, hj, es, clock, ks, g⟩
 have hom := g.om
 have hkeys : keysOk .string es = true := g.mo.ok
 have hsn := f1.n
 simp -implicitDefEqProofs (disch := omega) only [seval, go_sem, h0, h1]
 refine c_tab_Mark ht ?_
 simp -implicitDefEqProofs (disch := omega) only [seval, go_sem, h0, h1]
 refine cdK_d (fun hc => ?_) (fun hc => ?_)
 · obtain ⟨m, rfl⟩ : ∃ m, n = m + 1 := ⟨n - 1, by omega⟩
   have hm : m < fr.length := by omega
   have hcell := jcells fr m hm
   have hsl : tvSlice 6 (.vs k 0 6 (m + 1)) none (some (m : Int)) none = some (.vs k 0 6 m) := by
    simp [tvSlice]
    omega
   have hget : ([TV.lit (Value.string (st fr[m].path)), TV.lit (Value.string (st [])), TV.lit (Value.string (st [])), TV.sl Tag.none 0 [], TV.sl Tag.none 0 [], TV.lit (Value.bool false)].getD 5 TV.unk) = .lit (.bool false) := rfl
   simp -implicitDefEqProofs (disch := omega) only [seval, go_sem, h0, h1, ht, hj, hom, hjl, hcell, hsl, hget]
   refine drW_at [(0,0),(1,0),(2,0),(3,0),(4,0),(5,0),(6,2)] followsN (by kernel_rfl) ?_
   simp -implicitDefEqProofs (disch := omega) only [seval, go_sem, h0, h1, ht, hj, hom, hjl, hcell, hsl, hkeys, keyB_str]
   have htk : fr.take (m + 1) = fr.take m ++ [fr[m]] := by rw [List.take_add_one, List.getElem?_eq_getElem hm]; rfl
   have hdr : dropP (L ++ fr.take (m + 1)) fr[m].path = L ++ fr.take m := by
    rw [htk, ← List.append_assoc]
    refine dropP_last ?_
    rw [List.append_assoc, ← htk]
    refine hnd.sublist (List.Sublist.map _ ?_)
    exact List.Sublist.append (List.Sublist.refl _) (List.take_sublist _ _)
   have hrm1 : rm < S1.n := by omega
   refine ⟨m, Nat.lt_succ_self _, Nat.le_of_lt hm, h0, h1, ?_, ?_, ?_, ?_⟩
   · exact ((f1.set (.inl (.inl rfl)) _).set (.inl (.inr (.inl rfl))) _).push _
   · exact psh_old0 (S := (S1.set _ _).set _ _) ((st_old _ hn1).trans (TS.set_same' _ _ _)) (by show tab < S1.n; omega)
   · exact psh_old0 (S := (S1.set _ _).set _ _) ((st_old _ (Ne.symm hn3)).trans ((st_old _ (Ne.symm hn2)).trans hj)) (by show k < S1.n; omega)
   · rw [← hdr]
     exact ⟨_, _, _, g.del fr[m].path (psh_old0 (S := (S1.set _ _).set _ _) (TS.set_same' _ _ _) hrm1)⟩
 · obtain rfl : n = 0 := by omega
   simp -implicitDefEqProofs (disch := omega) only [seval, go_sem, h0, h1]
   refine ⟨_, Gh.trunc hj 0, hK _ ⟨(st_old _ hn2).trans ht, TS.set_same' _ _ _, rfl, ?_, ⟨by show tab < S1.n; omega, by show rm < S1.n; omega, by show k < S1.n; omega⟩, h.ne⟩ (f1.set (.inl (.inr (.inr rfl))) _)⟩
   rw [List.take_zero, List.append_nil] at g
   exact ⟨es, clock, ks, g.fr (st_old _ hn3)⟩
end Go.Proofs.YtoldjfappfbfbaaGreatDoor
namespace Go.Proofs.YtoldjfappfbfbaaGreatDoor
open Go.RowKit TL
theorem putF_drop {L : List RowM} {l fr : List RowM} {i : Nat} (hi : i < l.length) : putF L (l.drop i) fr = if fitsR (l.getD i default) = false then (4, fr) else if hasP (L ++ fr) (l.getD i default).path = true then putF L (l.drop (i + 1)) fr
 else if (l.getD i default).refs.all (hasP (L ++ fr)) = false then (6, fr) else if 64 <= (L ++ fr).length then (3, fr) else putF L (l.drop (i + 1)) (fr ++ [l.getD i default]) := by
 have e : l.drop i = l.getD i default :: l.drop (i + 1) := drop_at default hi
 rw [e, putF]
theorem putF_no {L : List RowM} {l fr : List RowM} {i : Nat} (hi : i < l.length) (hh : hasP (L ++ fr) (l.getD i default).path = false) : putF L (l.drop i) fr = if mayE (L ++ fr) (l.getD i default) ≠ 0 then (mayE (L ++ fr) (l.getD i default), fr) else putF L (l.drop (i + 1)) (fr ++ [l.getD i default]) := by
 rw [putF_drop hi, hh]
 unfold mayE
 cases fitsR (l.getD i default)
 · rfl
 · cases (l.getD i default).refs.all (hasP (L ++ fr))
   · rfl
   · by_cases h : 64 <= (L ++ fr).length
     · simp only [if_pos h]; rfl
     · simp only [if_neg h]; rfl
theorem StG.setOut {S : TS} {s : Nat} {I : StI} {L : List RowM} {jd : List D} {B : Bs -> Bs -> Bool} {roots : List Bs} {ver : BitVec 64} {tc : List (Bs × BitVec 64)} (h : StG S s I L jd B roots ver tc) {id : Nat} (hn : ¬ stF s I id) (o : TObj) : StG (S.set id o) s I L jd B roots ver tc :=
 h.fr (Nat.le_refl _) fun j hj => st_old _ fun e => hn (by rw [← e]; exact hj)
theorem stF_tab {s : Nat} {I : StI} {id : Nat} (h : tabF I.tab I.rm I.k id) : stF s I id := by
 rcases h with e | e | e <;> (left; subst e; simp)
section
variable {S : TS} {s : Nat} {I : StI} {L : List RowM} {B : Bs -> Bs -> Bool} {roots : List Bs} {ver : BitVec 64} {tc : List (Bs × BitVec 64)}
set_option maxRecDepth 8000 in
set_option maxHeartbeats 1000000 in
theorem c_stage {g : Tag} {sz : Nat} {l : List RowM} {K : TV -> TS -> Prop} (h : StG S s I L [] B roots ver tc) (hb : ∀ r ∈ l, RowB r) (hz : sz = 4 ∨ l = []) (hl : l.length <= 100000)
 (hK : ∀ S' I' v, StG S' s I' (L ++ (putF L l []).2) ((putF L l []).2.map fun r => jE r.path none) B roots ver tc -> StTo S S' s I I' -> ((putF L l []).1 = 0 -> v = .sl .none 4 (dR (putF L l []).2)) -> K (.tup [v, .lit (.int .i64 (putF L l []).1)]) S') :
 TCall env 62 [.ptr s 0, .sl g sz (dR l)] S K := by
 refine TCall.dgR ?_
 have hdl := dR_len l
 refine TCall.w 46 [.tmp 4, .tmp 5] Tryz.func62 rfl rfl rfl rfl (by kernel_rfl) rfl ?_
 simp -implicitDefEqProofs (disch := omega) only [seval, go_sem, hdl]
 refine loW.asRow 6 4 rfl (.inl rfl) ?_
 refine loW_inv (fun n T S1 => ∃ (i : Nat) (fr : List RowM) (I1 : StI) (kf : Nat), n + i = l.length /\ T 0 = .ptr s 0 /\ T 10 = .sl g sz (dR l) /\ T 11 = .lit (.int .i64 (l.length : Int)) /\ T 12 = .lit (.int .i64 (i : Int)) /\ T 6 = .sl (.own kf) 4 (dR fr) /\ fr.length <= i ∧
  StG S1 s I1 (L ++ fr) (fr.map fun r => jE r.path none) B roots ver tc /\ StTo S S1 s I I1 /\ S1.objs kf = .lin /\ ¬ stF s I1 kf /\ S.n <= kf /\ kf < S1.n /\ putF L l [] = putF L (l.drop i) fr) l.length ?_ ?_
 · refine ⟨0, [], I, S.n, rfl, rfl, rfl, rfl, rfl, rfl, Nat.le_refl _, ?_, (StTo.refl _ _ _).push _, push_self _ _, fun hh => Nat.lt_irrefl _ (h.flt _ hh), Nat.le_refl _, Nat.lt_succ_self _, rfl⟩
   rw [List.append_nil]; exact h.push _
 rintro n T S1 ⟨i, fr, I1, kf, hi, h0, h10, h11, h12, h6, hfi, hst, hto, hkf, hnk, hk1, hk2, hput⟩
 simp -implicitDefEqProofs (disch := omega) only [seval, go_sem, h0, h10, h11, h12, h6]
 refine cdK_d (fun hc => ?_) (fun hc => ?_)
 · have hlt : i < l.length := by omega
   have hz2 : sz = 4 := hz.resolve_right fun e => by rw [e] at hlt; simp at hlt
   subst hz2
   have hx := dR_get hlt
   have hrb : RowB (l.getD i default) := hb _ (getD_mem hlt)
   have hnoP := fun hh => putF_no (L := L) (fr := fr) hlt hh
   rw [putF_drop hlt] at hput hnoP
   generalize l.getD i default = r at *
   rw [rowD_mk] at hx
   have hrow : rowN r = .agg [.lit (.string (st r.path)), .lit (.string (st r.name)), .sl .none 1 (dB r.arc), .sl .none 1 (dT r.refs)] := rfl
   simp -implicitDefEqProofs (disch := omega) only [seval, go_sem, h0, h10, h11, h12, h6, hdl, hx]
   have hbx := push_self S1 (.cells 44 [.lit (.string (st r.path)), .lit (.string (st r.name)), .sl .none 1 (dB r.arc), .sl .none 1 (dT r.refs)])
   have hos := psh_old0 (o2 := .cells 44 [.lit (.string (st r.path)), .lit (.string (st r.name)), .sl .none 1 (dB r.arc), .sl .none 1 (dT r.refs)]) hst.os hst.lt.1
   have hsn := hto.fr.n
   refine c_Has (hst.push _) ?_
   cases hh : hasP (L ++ fr) r.path
   · simp -implicitDefEqProofs (disch := omega) only [seval, go_sem, h0, h10, h11, h12, h6, hdl, hx]
     refine c_may (r := r) (hst.push _) hrb ?_
     rw [hnoP hh] at hput
     simp -implicitDefEqProofs (disch := omega) only [seval, go_sem, h0, h10, h11, h12, h6, hdl, hx]
     refine cdK_d (fun hc2 => ?_) (fun hc2 => ?_)
     · simp -implicitDefEqProofs (disch := omega) only [seval, go_sem, h0, h10, h11, h12, h6, hdl, hx]
       rw [if_pos hc2] at hput
       rw [hput] at hK
       exact ⟨_, .refl _, hK _ I1 _ (hst.push _) (hto.push _) fun e => absurd e hc2⟩
     · have he0 : mayE (L ++ fr) r = 0 := by simpa using hc2
       rw [if_neg (by rw [he0]; simp)] at hput
       simp -implicitDefEqProofs (disch := omega) only [seval, go_sem, h0, h10, h11, h12, h6, hdl, hx]
       refine c_copied (r := r) ?_ hrb
       have hjl : (fr.map fun r => jE r.path none).length <= 1000000 := by simp; omega
       simp -implicitDefEqProofs (disch := omega) only [seval, go_sem, h0, h10, h11, h12, h6, hdl, hx, hrow]
       refine drW_at [(0,0),(1,0),(2,0),(3,0),(4,0),(5,0),(6,0),(7,2)] followsN (by kernel_rfl) ?_
       simp -implicitDefEqProofs (disch := omega) only [seval, go_sem, h0, h10, h11, h12, h6, hdl, hx, hrow, hos, hst.os]
       refine c_tab_Set (r := r) (hst.tb.push _) (rowAt_none.2 hh) fun S2 k2 t2 f2 hk22 => ?_
       have hb2 := f2.new (fun id hid => hst.tb.flt id hid)
       have hkf2 : S2.objs kf = .lin := f2.old (Nat.lt_succ_of_lt hk2) (fun hf => hnk (stF_tab hf)) (psh_old0 hkf hk2)
       have hs2 : S1.n + 1 <= S2.n := f2.n
       obtain ⟨g2, to2⟩ := (hst.push _).setTab t2 f2 (.inl hk22)
       have hk22' : S1.n + 1 <= k2 := hk22
       have hnk2 : ¬ stF s { I1 with k := k2 } kf := fun hf => by
        rcases to2.sub kf hf with h1 | h1
        · exact hnk h1
        · have : S1.n + 1 <= kf := h1
          omega
       simp -implicitDefEqProofs (disch := omega) only [seval, go_sem, h0, h10, h11, h12, h6, hdl, hx, hb2, hkf2]
       have hfl := dR_len fr
       refine ⟨by rw [hfl]; omega, rfl, n - 1, by omega, i + 1, fr ++ [r], { I1 with k := k2 }, S2.n, by omega, h0, h10, h11, rfl, by rw [dR_app]; rfl, by simp; omega, ?_, ?_, push_self _ _, (fun hf => Nat.lt_irrefl _ (g2.flt _ hf)), by omega, Nat.lt_succ_self _, hput⟩
       · rw [← List.append_assoc, List.map_append]
         exact (g2.setOut hnk2 _).push _
       · exact (((hto.push _).trans to2).set hk1 _).push _
   · simp -implicitDefEqProofs (disch := omega) only [seval, go_sem, h0, h10, h11, h12, h6, hdl, hx]
     refine c_Fits (r := r) ?_ hrb
     cases hf : fitsR r
     · rw [hf] at hput
       simp -implicitDefEqProofs (disch := omega) only [seval, go_sem, h0, h10, h11, h12, h6, hdl, hx]
       refine c_may (r := r) (hst.push _) hrb ?_
       have hm4 : mayE (L ++ fr) r = 4 := by unfold mayE; rw [hf]; rfl
       rw [hm4]
       simp -implicitDefEqProofs (disch := omega) only [seval, go_sem, h0, h10, h11, h12, h6, hdl, hx]
       have hput' : putF L l [] = (4, fr) := hput
       rw [hput'] at hK
       exact ⟨_, .refl _, hK _ I1 _ (hst.push _) (hto.push _) fun e => by cases e⟩
     · rw [hf, hh] at hput
       simp -implicitDefEqProofs (disch := omega) only [seval, go_sem, h0, h10, h11, h12, h6, hdl, hx]
       exact ⟨n - 1, by omega, i + 1, fr, I1, kf, by omega, h0, h10, h11, rfl, h6, by omega, hst.push _, hto.push _, psh_old0 hkf hk2, hnk, hk1, Nat.lt_succ_of_lt hk2, hput⟩
 · have e : i = l.length := by omega
   subst e
   simp -implicitDefEqProofs (disch := omega) only [seval, go_sem, h0, h10, h11, h12, h6]
   rw [List.drop_length] at hput
   have e2 : putF L l [] = (0, fr) := hput
   rw [e2] at hK
   exact ⟨_, .tupF (.cons (.sl _ _ _) (.cons (.refl _) .nil)), hK S1 I1 _ hst hto fun _ => rfl⟩
end
end Go.Proofs.YtoldjfappfbfbaaGreatDoor
namespace Go.Proofs.YtoldjfappfbfbaaGreatDoor
open Go.RowKit TL
section
variable {S : TS} {s : Nat} {I : StI} {L : List RowM} {jd : List D} {B : Bs -> Bs -> Bool} {roots : List Bs} {ver : BitVec 64} {tc : List (Bs × BitVec 64)}
def addB (B : Bs -> Bs -> Bool) (q p : Bs) : Bs -> Bs -> Bool := fun q' p' => B q' p' || (decide (q' = q) && decide (p' = p))
theorem SetOk.putT {S' : TS} {id : Nat} {f f' : Bs -> Bool} {es : Ents} {clock : Nat} {ks : List Bs} {p : Bs} (mo : MapOk kS es clock ks) (hg : ∀ p, getM kS es p = if f p = true then some (.lit (.bool true)) else none)
 (ho : S'.objs id = .map (putE (kS.v p) (.lit (.bool true)) es clock) (clkE (kS.v p) es clock)) (hf : ∀ p', f' p' = (f p' || decide (p' = p))) : SetOk S' id f' := by
 refine ⟨_, _, _, ho, mo.put p _, fun p' => ?_⟩
 rw [mo.get_put, hg, hf]
 by_cases h : p' = p
 · subst h; simp
 · simp [h]
theorem StG.linkOld (h : StG S s I L jd B roots ver tc) {q p : Bs} {id : Nat} (hq : I.bf q = some id) {es : Ents} {clock : Nat} {ks : List Bs} (om : S.objs id = .map es clock) (mo : MapOk kS es clock ks) (hg : ∀ p, getM kS es p = if B q p = true then some (.lit (.bool true)) else none) :
 StG (S.set id (.map (putE (kS.v p) (.lit (.bool true)) es clock) (clkE (kS.v p) es clock))) s I L jd (addB B q p) roots ver tc := by
 obtain ⟨b1, b2, b3, b4, b5, b6, b7⟩ := h.nb' hq
 refine ⟨(st_old _ (Ne.symm b1)).trans h.os, h.tb.fr (Nat.le_refl _) (fun j hj => st_old _ ?_), ⟨?_, fun q' id' hq' => ⟨?_, (h.bk.yes q' id' hq').2⟩, fun q' hq' p' => ?_, h.bk.inj⟩, h.rt.fr (st_old _ (Ne.symm b6)), ?_, h.lt, h.nd, h.nb⟩
 · rcases hj with e | e | e
   · rw [e]; exact Ne.symm b2
   · rw [e]; exact Ne.symm b3
   · rw [e]; exact Ne.symm b4
 · obtain ⟨es', c, ks', a, b, d⟩ := h.bk.om
   exact ⟨es', c, ks', (st_old _ (Ne.symm b5)).trans a, b, d⟩
 · by_cases e : q' = q
   · subst e
     rw [hq] at hq'
     cases hq'
     exact SetOk.putT mo hg (TS.set_same' _ _ _) fun p' => by simp [addB]
   · have hne : id' ≠ id := fun e2 => e (h.bk.inj _ _ id (by rw [hq', e2]) hq)
     have := (h.bk.yes q' id' hq').1.fr (S' := S.set id (.map (putE (kS.v p) (.lit (.bool true)) es clock) (clkE (kS.v p) es clock))) (st_old _ hne)
     have hf : addB B q p q' = B q' := by funext p'; simp [addB, e]
     rw [hf]; exact this
 · have hne : q' ≠ q := fun e => by rw [e, hq] at hq'; cases hq'
   simp [addB, hne, h.bk.no q' hq' p']
 · obtain ⟨es', c, ks', a, b, d⟩ := h.sm
   exact ⟨es', c, ks', (st_old _ (Ne.symm b7)).trans a, b, d⟩
theorem getM_one (p p' : Bs) (t : TV) : getM kS (putE (kS.v p) t [] 0) p' = if p' = p then some t else none := by
 rw [(MapOk.nil (κ := kS)).get_put, getM_nil]
theorem StG.linkNew (h : StG S s I L jd B roots ver tc) {q p : Bs} (hq : I.bf q = none) {es : Ents} {clock : Nat} {ks : List Bs} (om : S.objs I.bk = .map es clock) (mo : MapOk kS es clock ks) (hg : ∀ q, getM kS es q = (I.bf q).map TV.mp) :
 StG ((S.set I.bk (.map (putE (kS.v q) (.mp S.n) es clock) (clkE (kS.v q) es clock))).push (.map (putE (kS.v p) (.lit (.bool true)) [] 0) (clkE (kS.v p) [] 0))) s { I with bf := fun x => if x = q then some S.n else I.bf x } L jd (addB B q p) roots ver tc := by
 have ne := h.ne
 obtain ⟨l1, l2, l3, l4⟩ := h.lt
 obtain ⟨t1, t2, t3⟩ := h.tb.lt
 have hold : ∀ id, id < S.n -> id ≠ I.bk -> ((S.set I.bk (.map (putE (kS.v q) (.mp S.n) es clock) (clkE (kS.v q) es clock))).push (.map (putE (kS.v p) (.lit (.bool true)) [] 0) (clkE (kS.v p) [] 0))).objs id = S.objs id := fun id hi hn =>
  psh_old0 (S := S.set _ _) (st_old _ hn) hi
 refine ⟨(hold _ l1 ne.s_bk).trans h.os, h.tb.fr (Nat.le_succ _) (fun j hj => hold j (h.tb.flt j hj) ?_), ⟨⟨_, _, _, psh_old0 (S := S.set _ _) (TS.set_same' _ _ _) l2, mo.put q _, fun q' => ?_⟩, fun q' id' hq' => ?_, fun q' hq' p' => ?_, fun q1 q2 id' h1 h2 => ?_⟩, h.rt.fr (hold _ l3 ne.bk_rt.symm), ?_,
  ⟨Nat.lt_succ_of_lt l1, Nat.lt_succ_of_lt l2, Nat.lt_succ_of_lt l3, Nat.lt_succ_of_lt l4⟩, h.nd, fun q' id' hq' => ?_⟩
 · rcases hj with e | e | e
   · rw [e]; exact ne.tab_bk
   · rw [e]; exact ne.rm_bk
   · rw [e]; exact ne.k_bk
 · rw [mo.get_put, hg]
   show _ = Option.map TV.mp (if q' = q then some S.n else I.bf q')
   by_cases e : q' = q
   · rw [if_pos e, if_pos e]; rfl
   · rw [if_neg e, if_neg e]
 · simp only at hq'
   by_cases e : q' = q
   · rw [if_pos e] at hq'
     cases hq'
     subst e
     refine ⟨⟨_, _, _, push_self _ _, (MapOk.nil (κ := kS)).put p _, fun p' => ?_⟩, Nat.lt_succ_self _⟩
     rw [getM_one]
     simp [addB, h.bk.no q' hq p']
   · rw [if_neg e] at hq'
     have hlt := (h.bk.yes q' id' hq').2
     refine ⟨?_, Nat.lt_succ_of_lt hlt⟩
     have hf : addB B q p q' = B q' := by funext p'; simp [addB, e]
     rw [hf]
     exact (h.bk.yes q' id' hq').1.fr (hold _ hlt (h.nb' hq').2.2.2.2.1)
 · simp only at hq'
   by_cases e : q' = q
   · rw [if_pos e] at hq'; cases hq'
   · rw [if_neg e] at hq'
     simp [addB, e, h.bk.no q' hq' p']
 · simp only at h1 h2
   by_cases e1 : q1 = q
   · by_cases e2 : q2 = q
     · rw [e1, e2]
     · rw [if_pos e1] at h1
       rw [if_neg e2] at h2
       cases h1
       have := (h.bk.yes q2 _ h2).2
       omega
   · rw [if_neg e1] at h1
     by_cases e2 : q2 = q
     · rw [if_pos e2] at h2
       cases h2
       have := (h.bk.yes q1 _ h1).2
       omega
     · rw [if_neg e2] at h2
       exact h.bk.inj _ _ _ h1 h2
 · obtain ⟨es', c, ks', a, b, d⟩ := h.sm
   exact ⟨es', c, ks', (hold _ l4 ne.bk_sm.symm).trans a, b, d⟩
 · simp only at hq'
   by_cases e : q' = q
   · rw [if_pos e] at hq'
     cases hq'
     simp only [List.mem_cons, List.not_mem_nil, or_false, not_or]
     exact ⟨by omega, by omega, by omega, by omega, by omega, by omega, by omega⟩
   · rw [if_neg e] at hq'
     exact h.nb q' id' hq'
theorem StTo.linkNew {q : Bs} {o o2 : TObj} : StTo S ((S.set I.bk o).push o2) s I { I with bf := fun x => if x = q then some S.n else I.bf x } :=
 ⟨((Frm.refl S _).set (.inl (stF_bk _ _)) _).push _, fun id hi => by
  rcases hi with hi | ⟨x, hx⟩
  · exact .inl (.inl hi)
  · simp only at hx
    by_cases e : x = q
    · rw [if_pos e] at hx; cases hx; exact .inr (Nat.le_refl _)
    · rw [if_neg e] at hx; exact .inl (.inr ⟨x, hx⟩)⟩
def linkB (B : Bs -> Bs -> Bool) (refs : List Bs) (p : Bs) : Bs -> Bs -> Bool := fun q' p' => B q' p' || (decide (q' ∈ refs) && decide (p' = p))
theorem linkB_nil (B : Bs -> Bs -> Bool) (p : Bs) : linkB B [] p = B := by funext q p'; simp [linkB]
theorem linkB_snoc (B : Bs -> Bs -> Bool) (l : List Bs) (q p : Bs) : addB (linkB B l p) q p = linkB B (l ++ [q]) p := by
 funext q' p'
 simp only [addB, linkB, List.mem_append, List.mem_singleton]
 cases B q' p' <;> by_cases h1 : q' ∈ l <;> by_cases h2 : q' = q <;> by_cases h3 : p' = p <;> simp [h1, h2, h3]
set_option maxRecDepth 8000 in
set_option maxHeartbeats 1000000 in
theorem c_link {r : RowM} {K : TV -> TS -> Prop} (h : StG S s I L jd B roots ver tc) (hb : RowB r)
 (hK : ∀ S' I', StG S' s I' L jd (linkB B r.refs r.path) roots ver (tc ++ (rowTouch r).map fun p => (p, ver)) -> StTo S S' s I I' -> K (.tup []) S') : TCall env 65 [.ptr s 0, rowN r] S K := by
 have hrl := hb.rl
 have hdl := dT_len r.refs
 rw [rowN_mk]
 refine TCall.w 44 [] Tryz.func65 rfl rfl rfl rfl (by kernel_rfl) rfl ?_
 simp -implicitDefEqProofs (disch := omega) only [seval, go_sem, hdl]
 generalize hS0 : S.push _ = S0
 have hbx0 : S0.objs S.n = .cells 44 [.lit (.string (st r.path)), .lit (.string (st r.name)), .sl .none 1 (dB r.arc), .sl .none 1 (dT r.refs)] := by rw [← hS0]; exact push_self _ _
 have h0 : StG S0 s I L jd B roots ver tc := by rw [← hS0]; exact h.push _
 have hn0 : S0.n = S.n + 1 := by rw [← hS0]; rfl
 have hto0 : StTo S S0 s I I := by rw [← hS0]; exact (StTo.refl _ _ _).push _
 have hnb : ¬ stF s I S.n := fun hh => Nat.lt_irrefl _ (h.flt _ hh)
 refine loW_inv (fun n T S1 => ∃ (i : Nat) (I1 : StI), n + i = r.refs.length /\ T 0 = .ptr s 0 /\ T 3 = .ptr S.n 0 /\ T 7 = .sl .none 1 (dT r.refs) /\ T 8 = .lit (.int .i64 (r.refs.length : Int)) /\ T 9 = .lit (.int .i64 (i : Int)) ∧
  StG S1 s I1 L jd (linkB B (r.refs.take i) r.path) roots ver tc /\ StTo S0 S1 s I I1) r.refs.length ?_ ?_
 · exact ⟨0, I, rfl, rfl, rfl, rfl, rfl, rfl, by rw [List.take_zero, linkB_nil]; exact h0, StTo.refl _ _ _⟩
 rintro n T S1 ⟨i, I1, hi, h0', h3, h7, h8, h9, hst, hto⟩
 have hbx : S1.objs S.n = .cells 44 [.lit (.string (st r.path)), .lit (.string (st r.name)), .sl .none 1 (dB r.arc), .sl .none 1 (dT r.refs)] := hto.fr.old (by omega) hnb hbx0
 have hn1 := hto.fr.n
 have hos := hst.os
 obtain ⟨es, clock, ks, om, mo, hg⟩ := hst.bk.om
 have hkeys : keysOk .string es = true := mo.ok
 simp -implicitDefEqProofs (disch := omega) only [seval, go_sem, h0', h3, h7, h8, h9, hdl]
 refine cdK_d (fun hc => ?_) (fun hc => ?_)
 · have hlt : i < r.refs.length := by omega
   have hx := dT_get hlt
   have htk := take_succ_D r.refs (i := i) [] hlt
   generalize r.refs.getD i [] = q at *
   cases hq : I1.bf q with
   | none =>
    have hlk : lookT (.string (st q)) es (.lit (.map none)) = .lit (.map none) := by
     show lookT (kS.v q) es _ = _
     rw [look_get, hg, hq]; rfl
    have hlk2 : lookT (.string (st q)) (putE (.string (st q)) (.mp S1.n) es clock) (.lit (.map none)) = .mp S1.n := by
     show lookT (kS.v q) (putE (kS.v q) _ es clock) _ = _
     rw [look_get, mo.get_put, if_pos rfl]; rfl
    have hkeys2 : keysOk .string (putE (.string (st q)) (.mp S1.n) es clock) = true := (mo.put q (.mp S1.n)).ok
    have hk0 : keysOk .string ([] : Ents) = true := rfl
    have hbl := hst.lt.2.1
    simp -implicitDefEqProofs (disch := omega) only [seval, go_sem, h0', h3, h7, h8, h9, hdl, hx, hos, om, hkeys, keyB_str, lkT_f, hlk]
    refine drW_at [(0,0),(1,0),(2,0),(3,0),(4,0),(5,0),(6,0),(7,0),(8,2)] followsN (by kernel_rfl) ?_
    have hne := hst.ne.s_bk
    have hsl := hst.lt.1
    have hsb : S.n ≠ I1.bk := fun e => hto.not (by omega) hnb (by rw [e]; exact stF_bk s I1)
    simp -implicitDefEqProofs (disch := omega) only [seval, go_sem, h0', h3, h7, h8, h9, hdl, hx, hos, om, hkeys, keyB_str, lkT_f, hlk, hlk2, hkeys2, hk0, hbx]
    refine ⟨n - 1, by omega, i + 1, { I1 with bf := fun x => if x = q then some S1.n else I1.bf x }, by omega, h0', h3, h7, h8, rfl, ?_, hto.trans .linkNew⟩
    rw [htk, ← linkB_snoc]
    exact hst.linkNew hq om mo hg
   | some id =>
    obtain ⟨es2, clock2, ks2, om2, mo2, hg2⟩ := (hst.bk.yes q id hq).1
    have hkeys2 : keysOk .string es2 = true := mo2.ok
    have hlk : lookT (.string (st q)) es (.lit (.map none)) = .mp id := by
     show lookT (kS.v q) es _ = _
     rw [look_get, hg, hq]; rfl
    simp -implicitDefEqProofs (disch := omega) only [seval, go_sem, h0', h3, h7, h8, h9, hdl, hx, hos, om, hkeys, keyB_str, lkT_f, hlk]
    refine drW_at [(0,0),(1,0),(2,0),(3,0),(4,0),(5,0),(6,0),(7,0),(8,2)] followsN (by kernel_rfl) ?_
    simp -implicitDefEqProofs (disch := omega) only [seval, go_sem, h0', h3, h7, h8, h9, hdl, hx, hos, om, hkeys, keyB_str, lkT_f, hlk, om2, hkeys2, hbx]
    refine ⟨n - 1, by omega, i + 1, I1, by omega, h0', h3, h7, h8, rfl, ?_, hto.trans (.own hst (.inr ⟨q, hq⟩) _)⟩
    rw [htk, ← linkB_snoc]
    exact hst.linkOld hq om2 mo2 hg2
 · have e : i = r.refs.length := by omega
   subst e
   rw [List.take_length] at hst
   simp -implicitDefEqProofs (disch := omega) only [seval, go_sem, h0', h3, h7, h8, h9, hdl, hbx]
   rw [dT_one]
   refine c_touchG hst (fun S2 g2 t2 n2 => ?_) (.inl rfl) (by simp)
   have hbx2 : S2.objs S.n = .cells 44 [.lit (.string (st r.path)), .lit (.string (st r.name)), .sl .none 1 (dB r.arc), .sl .none 1 (dT r.refs)] := t2.fr.old (by omega) (hto.not (by omega) hnb) hbx
   simp -implicitDefEqProofs (disch := omega) only [seval, go_sem, h0', h3, h7, h8, h9, hdl, hbx2]
   refine c_touchG g2 (fun S3 g3 t3 n3 => ?_) (.inl rfl)
   simp -implicitDefEqProofs (disch := omega) only [seval, go_sem]
   refine hK S3 I1 ?_ (((hto0.trans hto).trans t2).trans t3)
   rw [List.append_assoc, ← List.map_append] at g3
   exact g3
end
end Go.Proofs.YtoldjfappfbfbaaGreatDoor
namespace Go.Proofs.YtoldjfappfbfbaaGreatDoor
open Go.RowKit TL
def backB (L : List RowM) : Bs -> Bs -> Bool := fun q p => L.any fun r => decide (r.path = p) && decide (q ∈ r.refs)
theorem backB_snoc (L : List RowM) (r : RowM) : backB (L ++ [r]) = linkB (backB L) r.refs r.path := by
 funext q p
 simp only [backB, linkB, List.any_append, List.any_cons, List.any_nil, Bool.or_false]
 rw [Bool.and_comm]
 by_cases h : r.path = p
 · subst h; simp
 · have : ¬ p = r.path := fun e => h e.symm
   simp [h, this]
theorem backB_iff (L : List RowM) (q p : Bs) : backB L q p = true ↔ ∃ r ∈ L, r.path = p /\ q ∈ r.refs := by
 simp [backB]
def StOk (S : TS) (s : Nat) (I : StI) (M : StM) : Prop := StG S s I M.L [] (backB M.L) M.roots M.ver M.tc
theorem putF_sub (L : List RowM) : ∀ (l fr : List RowM), ∀ r ∈ (putF L l fr).2, r ∈ fr ∨ r ∈ l
 | [], fr, r, h => .inl h
 | x :: l, fr, r, h => by
  unfold putF at h
  have ih := putF_sub L l
  split at h
  · exact .inl h
  · split at h
    · rcases ih fr r h with h | h
      · exact .inl h
      · exact .inr (List.mem_cons_of_mem _ h)
    · split at h
      · exact .inl h
      · split at h
        · exact .inl h
        · rcases ih _ r h with h | h
          · rcases List.mem_append.1 h with h | h
            · exact .inl h
            · rw [List.mem_singleton.1 h]; exact .inr (by simp)
          · exact .inr (List.mem_cons_of_mem _ h)
theorem putF_len (L : List RowM) : ∀ (l fr : List RowM), (putF L l fr).2.length <= fr.length + l.length
 | [], fr => Nat.le_refl _
 | x :: l, fr => by
  unfold putF
  have ih := putF_len L l
  have h1 := ih fr
  have h2 := ih (fr ++ [x])
  simp only [List.length_append, List.length_cons, List.length_nil] at h2
  split
  · simp
  · split
    · simp only [List.length_cons]; omega
    · split
      · simp
      · split
        · simp
        · simp only [List.length_cons]; omega
theorem putF_nodup (L : List RowM) : ∀ (l fr : List RowM), (pathsOf (L ++ fr)).Nodup -> (pathsOf (L ++ (putF L l fr).2)).Nodup
 | [], fr, h => h
 | x :: l, fr, h => by
  unfold putF
  have ih := putF_nodup L l
  split
  · exact h
  · split
    · exact ih fr h
    · rename_i hh
      split
      · exact h
      · split
        · exact h
        · refine ih _ ?_
          rw [← List.append_assoc]
          unfold pathsOf
          rw [List.map_append, List.nodup_append]
          refine ⟨h, by simp, fun a ha b hb => ?_⟩
          simp at hb
          subst hb
          intro e
          subst e
          exact hh ((hasP_iff _ _).2 ha)
theorem add64 (v : BitVec 64) : v + 1#64 = v + 1 := rfl
section
variable {S : TS} {s : Nat} {I : StI} {M : StM}
set_option maxRecDepth 8000 in
set_option maxHeartbeats 1000000 in
theorem c_Put {g : Tag} {sz : Nat} {l : List RowM} {K : TV -> TS -> Prop} (h : StOk S s I M) (hnd : (pathsOf M.L).Nodup) (hb : ∀ r ∈ l, RowB r) (hz : sz = 4 ∨ l = []) (hl : l.length <= 100000)
 (hK : ∀ S' I', StOk S' s I' (putM M l).1 -> StTo S S' s I I' -> K (.lit (.int .i64 (putM M l).2)) S') : TCall env 18 [.ptr s 0, .sl g sz (dR l)] S K := by
 have hfl := putF_len M.L l []
 have hnf := putF_nodup M.L l [] (by rw [List.append_nil]; exact hnd)
 have hfs := putF_sub M.L l []
 simp only [List.length_nil, Nat.zero_add] at hfl
 refine TCall.w 50 [.tmp 4] Tryz.func18 rfl rfl rfl rfl (by kernel_rfl) rfl ?_
 simp -implicitDefEqProofs (disch := omega) only [seval, go_sem]
 refine c_stage h hb hz hl fun S1 I1 v h1 t1 hv => ?_
 unfold putM at hK
 generalize putF M.L l [] = pr at *
 obtain ⟨e, fr⟩ := pr
 have hfl' : fr.length <= 100000 := Nat.le_trans hfl hl
 have hdf := dR_len fr
 have hs1 := h1.os
 simp only at h1 t1 hv hK hnf hfs
 simp -implicitDefEqProofs (disch := omega) only [seval, go_sem, hs1]
 refine cdK_d (fun hc => ?_) (fun hc => ?_)
 · rw [if_pos hc] at hK
   simp -implicitDefEqProofs (disch := omega) only [seval, go_sem, hs1]
   refine c_tab_Undo h1.tb hnf (by omega) fun S2 tb2 f2 => ?_
   obtain ⟨g2, t2⟩ := h1.setTab tb2 f2 (.inr rfl)
   simp -implicitDefEqProofs (disch := omega) only [seval, go_sem]
   exact hK S2 _ g2 (t1.trans t2)
 · have he : e = 0 := by simpa using hc
   subst he
   have hv' := hv rfl
   subst hv'
   rw [if_neg (by simp)] at hK
   simp -implicitDefEqProofs (disch := omega) only [seval, go_sem, hs1]
   refine c_tab_Done h1.tb fun S2 k2 tb2 f2 hk2 => ?_
   obtain ⟨g2, t2⟩ := h1.setTab tb2 f2 (.inl hk2)
   have hs2 := g2.os
   generalize hI2 : ({ I1 with k := k2 } : StI) = I2 at *
   simp -implicitDefEqProofs (disch := omega) only [seval, go_sem, hs2, hdf]
   refine cdK_d (fun hc2 => ?_) (fun hc2 => ?_)
   · have hfr : fr ≠ [] := fun e => by rw [e] at hc2; simp at hc2
     rw [if_neg hfr] at hK
     simp -implicitDefEqProofs (disch := omega) only [seval, go_sem, hs2, hdf]
     have g3 := g2.setVer (M.ver + 1#64)
     have t3 := StTo.own g2 (stF_s s I2) (.cells 114 [.ptr I2.tab 0, .mp I2.bk, .mp I2.rt, .mp I2.sm, .lit (w64 (M.ver + 1#64))])
     generalize S2.set s _ = S3 at *
     refine loW_inv (fun n T S4 => ∃ (i : Nat) (I4 : StI), n + i = fr.length /\ T 0 = .ptr s 0 /\ T 40 = .sl .none 4 (dR fr) /\ T 41 = .lit (.int .i64 (fr.length : Int)) /\ T 42 = .lit (.int .i64 (i : Int)) ∧
      StG S4 s I4 (M.L ++ fr) [] (backB (M.L ++ fr.take i)) M.roots (M.ver + 1#64) (M.tc ++ ((fr.take i).flatMap rowTouch).map fun p => (p, M.ver + 1#64)) /\ StTo S3 S4 s I2 I4) fr.length ?_ ?_
     · exact ⟨0, I2, rfl, rfl, rfl, rfl, rfl, by simpa using g3, StTo.refl _ _ _⟩
     rintro n T S4 ⟨i, I4, hi, q0, q40, q41, q42, g4, t4⟩
     simp -implicitDefEqProofs (disch := omega) only [seval, go_sem, q0, q40, q41, q42, hdf]
     refine cdK_d (fun hc3 => ?_) (fun hc3 => ?_)
     · have hlt : i < fr.length := by omega
       have hx := dR_get hlt
       have htk := take_succ_D fr (i := i) default hlt
       have hrb : RowB (fr.getD i default) := hb _ ((hfs _ (getD_mem hlt)).resolve_left (by simp))
       generalize fr.getD i default = r at *
       rw [rowD_mk] at hx
       simp -implicitDefEqProofs (disch := omega) only [seval, go_sem, q0, q40, q41, q42, hdf, hx]
       refine c_link (r := r) (g4.push _) hrb fun S5 I5 g5 t5 => ?_
       simp -implicitDefEqProofs (disch := omega) only [seval, go_sem, q0, q40, q41, q42, hdf, hx]
       refine ⟨n - 1, by omega, i + 1, I5, by omega, q0, q40, q41, rfl, ?_, t4.trans (t5.of_push)⟩
       rw [htk, ← List.append_assoc, backB_snoc, List.flatMap_append, List.map_append, ← List.append_assoc]
       simpa using g5
     · have e : i = fr.length := by omega
       subst e
       rw [List.take_length] at g4
       simp -implicitDefEqProofs (disch := omega) only [seval, go_sem, q0, q40, q41, q42, hdf]
       exact hK S4 I4 g4 (((t1.trans t2).trans t3).trans t4)
   · have hfr : fr = [] := List.eq_nil_of_length_eq_zero (by omega)
     subst hfr
     simp -implicitDefEqProofs (disch := omega) only [seval, go_sem, hs2, hdf]
     refine loW_inv (fun n T S4 => T 41 = .lit (.int .i64 0) /\ T 42 = .lit (.int .i64 0) /\ S4 = S2) 0 ⟨rfl, rfl, rfl⟩ ?_
     rintro n T S4 ⟨q41, q42, rfl⟩
     simp -implicitDefEqProofs (disch := omega) only [seval, go_sem, q41, q42]
     rw [if_pos rfl] at hK
     refine hK _ I2 ?_ (t1.trans t2)
     rw [List.append_nil] at g2
     exact g2
end
end Go.Proofs.YtoldjfappfbfbaaGreatDoor
namespace Go.Proofs.YtoldjfappfbfbaaGreatDoor
open Go.RowKit TL
theorem SetOk.len {es : Ents} {clock : Nat} {ks : List Bs} {f : Bs -> Bool} {l : List Bs} (mo : MapOk kS es clock ks) (hg : ∀ p, getM kS es p = if f p = true then some (.lit (.bool true)) else none) (hl : l.Nodup) (hf : ∀ p, p ∈ l ↔ f p = true) : es.length = l.length := by
 rw [mo.len]
 have h1 : ∀ x ∈ ks, x ∈ l := fun x hx => (hf x).2 ((SetOk.mem mo hg x).1 hx)
 have h2 : ∀ x ∈ l, x ∈ ks := fun x hx => (SetOk.mem mo hg x).2 ((hf x).1 hx)
 exact Nat.le_antisymm (nodup_len mo.nd h1) (nodup_len hl h2)
theorem SetOk.look {es : Ents} {f : Bs -> Bool} (hg : ∀ p, getM kS es p = if f p = true then some (.lit (.bool true)) else none) (p : Bs) : lookT (.string (st p)) es (.lit (.bool false)) = .lit (.bool (f p)) := by
 show lookT (kS.v p) es _ = _
 rw [look_get, hg]
 cases f p <;> rfl
theorem SetOk.delT {S' : TS} {id : Nat} {f f' : Bs -> Bool} {es : Ents} {clock : Nat} {ks : List Bs} {p : Bs} (mo : MapOk kS es clock ks) (hg : ∀ p, getM kS es p = if f p = true then some (.lit (.bool true)) else none)
 (ho : S'.objs id = .map (delE (kS.v p) es) clock) (hf : ∀ p', f' p' = (f p' && !decide (p' = p))) : SetOk S' id f' := by
 refine ⟨_, _, _, ho, mo.del p, fun p' => ?_⟩
 rw [mo.get_del, hg, hf]
 by_cases h : p' = p
 · subst h; simp
 · simp [h]
section
variable {S : TS} {s : Nat} {I : StI} {M : StM}
set_option maxRecDepth 8000 in
set_option maxHeartbeats 1000000 in
theorem c_Root {p : Bs} {K : TV -> TS -> Prop} (h : StOk S s I M) (hr : Ris M.roots)
 (hK : ∀ S', StOk S' s I (rootM M p).1 -> StTo S S' s I I -> K (.lit (.int .i64 (rootM M p).2)) S') : TCall env 30 [.ptr s 0, .lit (.string (st p))] S K := by
 obtain ⟨es, clock, ks, om, mo, hg⟩ := h.rt
 have hos := h.os
 have hkeys : keysOk .string es = true := mo.ok
 have hlk := SetOk.look hg p
 have hlen := SetOk.len mo hg (ris_nodup hr) (fun p => by simp)
 have hne := h.ne.s_rt
 unfold rootM at hK
 refine TCall.w 40 [.tmp 4] Tryz.func30 rfl rfl rfl rfl (by kernel_rfl) rfl ?_
 simp -implicitDefEqProofs (disch := omega) only [seval, go_sem]
 refine c_Has h ?_
 cases hh : hasP M.L p
 · rw [if_pos hh] at hK
   simp -implicitDefEqProofs (disch := omega) only [seval, go_sem]
   exact hK S h (StTo.refl _ _ _)
 · rw [if_neg (by rw [hh]; simp)] at hK
   simp -implicitDefEqProofs (disch := omega) only [seval, go_sem, hos, om, hkeys, keyB_str, lkT_f, hlk]
   refine cdK_d (fun hc => ?_) (fun hc => ?_)
   · rw [if_pos hc] at hK
     simp -implicitDefEqProofs (disch := omega) only [seval, go_sem]
     exact hK S h (StTo.refl _ _ _)
   · rw [if_neg hc] at hK
     simp -implicitDefEqProofs (disch := omega) only [seval, go_sem, hos, om, hkeys, keyB_str, lkT_f, hlk, hlen]
     refine cdK_d (fun hc2 => ?_) (fun hc2 => ?_)
     · rw [if_pos (by omega)] at hK
       simp -implicitDefEqProofs (disch := omega) only [seval, go_sem]
       exact hK S h (StTo.refl _ _ _)
     · rw [if_neg (by omega)] at hK
       simp -implicitDefEqProofs (disch := omega) only [seval, go_sem, hos, om, hkeys, keyB_str, lkT_f, hlk, hlen]
       have g1 := h.setRt (roots' := riseL (M.roots ++ [p])) (SetOk.putT (S' := S.set I.rt (.map (putE (kS.v p) (.lit (.bool true)) es clock) (clkE (kS.v p) es clock))) mo hg (TS.set_same' _ _ _) fun p' => by simp [riseL_mem])
       have t1 := StTo.own h (stF_rt s I) (.map (putE (kS.v p) (.lit (.bool true)) es clock) (clkE (kS.v p) es clock))
       have g2 := g1.setVer (M.ver + 1#64)
       have t2 := StTo.own g1 (stF_s s I) (.cells 114 [.ptr I.tab 0, .mp I.bk, .mp I.rt, .mp I.sm, .lit (w64 (M.ver + 1#64))])
       rw [dT_one]
       refine c_touchG g2 (fun S3 g3 t3 n3 => ?_) (.inl rfl) (by simp)
       simp -implicitDefEqProofs (disch := omega) only [seval, go_sem]
       exact hK S3 g3 ((t1.trans t2).trans t3)
set_option maxRecDepth 8000 in
set_option maxHeartbeats 1000000 in
theorem c_Unroot {p : Bs} {K : TV -> TS -> Prop} (h : StOk S s I M) (hr : Ris M.roots)
 (hK : ∀ S', StOk S' s I (unrootM M p).1 -> StTo S S' s I I -> K (.lit (.int .i64 (unrootM M p).2)) S') : TCall env 51 [.ptr s 0, .lit (.string (st p))] S K := by
 obtain ⟨es, clock, ks, om, mo, hg⟩ := h.rt
 have hos := h.os
 have hkeys : keysOk .string es = true := mo.ok
 have hlk := SetOk.look hg p
 have hne := h.ne.s_rt
 unfold unrootM at hK
 refine TCall.w 32 [.tmp 4] Tryz.func51 rfl rfl rfl rfl (by kernel_rfl) rfl ?_
 by_cases hc : p ∈ M.roots
 · rw [if_pos hc] at hK
   rw [decide_eq_true hc] at hlk
   simp -implicitDefEqProofs (disch := omega) only [seval, go_sem, hos, om, hkeys, keyB_str, lkT_f, hlk]
   have g1 := h.setRt (roots' := withoutL M.roots p) (SetOk.delT (S' := S.set I.rt (.map (delE (kS.v p) es) clock)) mo hg (TS.set_same' _ _ _) fun p' => by simp [withoutL])
   have t1 := StTo.own h (stF_rt s I) (.map (delE (kS.v p) es) clock)
   have g2 := g1.setVer (M.ver + 1#64)
   have t2 := StTo.own g1 (stF_s s I) (.cells 114 [.ptr I.tab 0, .mp I.bk, .mp I.rt, .mp I.sm, .lit (w64 (M.ver + 1#64))])
   rw [dT_one]
   refine c_touchG g2 (fun S3 g3 t3 n3 => ?_) (.inl rfl) (by simp)
   simp -implicitDefEqProofs (disch := omega) only [seval, go_sem]
   exact hK S3 g3 ((t1.trans t2).trans t3)
 · rw [if_neg hc] at hK
   rw [decide_eq_false hc] at hlk
   simp -implicitDefEqProofs (disch := omega) only [seval, go_sem, hos, om, hkeys, keyB_str, lkT_f, hlk]
   exact hK S h (StTo.refl _ _ _)
end
end Go.Proofs.YtoldjfappfbfbaaGreatDoor
namespace Go.Proofs.YtoldjfappfbfbaaGreatDoor
open Go.RowKit TL
section
variable {S : TS} {s : Nat} {I : StI} {L : List RowM} {jd : List D} {B : Bs -> Bs -> Bool} {roots : List Bs} {ver : BitVec 64} {tc : List (Bs × BitVec 64)}
def delB (B : Bs -> Bs -> Bool) (q p : Bs) : Bs -> Bs -> Bool := fun q' p' => B q' p' && !(decide (q' = q) && decide (p' = p))
theorem StG.cutOld (h : StG S s I L jd B roots ver tc) {q p : Bs} {id : Nat} (hq : I.bf q = some id) {es : Ents} {clock : Nat} {ks : List Bs} (om : S.objs id = .map es clock) (mo : MapOk kS es clock ks) (hg : ∀ p, getM kS es p = if B q p = true then some (.lit (.bool true)) else none) :
 StG (S.set id (.map (delE (kS.v p) es) clock)) s I L jd (delB B q p) roots ver tc := by
 obtain ⟨b1, b2, b3, b4, b5, b6, b7⟩ := h.nb' hq
 refine ⟨(st_old _ (Ne.symm b1)).trans h.os, h.tb.fr (Nat.le_refl _) (fun j hj => st_old _ ?_), ⟨?_, fun q' id' hq' => ⟨?_, (h.bk.yes q' id' hq').2⟩, fun q' hq' p' => ?_, h.bk.inj⟩, h.rt.fr (st_old _ (Ne.symm b6)), ?_, h.lt, h.nd, h.nb⟩
 · rcases hj with e | e | e
   · rw [e]; exact Ne.symm b2
   · rw [e]; exact Ne.symm b3
   · rw [e]; exact Ne.symm b4
 · obtain ⟨es', c, ks', a, b, d⟩ := h.bk.om
   exact ⟨es', c, ks', (st_old _ (Ne.symm b5)).trans a, b, d⟩
 · by_cases e : q' = q
   · subst e
     rw [hq] at hq'
     cases hq'
     exact SetOk.delT mo hg (TS.set_same' _ _ _) fun p' => by simp [delB]
   · have hne : id' ≠ id := fun e2 => e (h.bk.inj _ _ id (by rw [hq', e2]) hq)
     have := (h.bk.yes q' id' hq').1.fr (S' := S.set id (.map (delE (kS.v p) es) clock)) (st_old _ hne)
     have hf : delB B q p q' = B q' := by funext p'; simp [delB, e]
     rw [hf]; exact this
 · simp [delB, h.bk.no q' hq' p']
 · obtain ⟨es', c, ks', a, b, d⟩ := h.sm
   exact ⟨es', c, ks', (st_old _ (Ne.symm b7)).trans a, b, d⟩
def cutB (B : Bs -> Bs -> Bool) (refs : List Bs) (p : Bs) : Bs -> Bs -> Bool := fun q' p' => B q' p' && !(decide (q' ∈ refs) && decide (p' = p))
theorem cutB_nil (B : Bs -> Bs -> Bool) (p : Bs) : cutB B [] p = B := by funext q p'; simp [cutB]
theorem cutB_snoc (B : Bs -> Bs -> Bool) (l : List Bs) (q p : Bs) : delB (cutB B l p) q p = cutB B (l ++ [q]) p := by
 funext q' p'
 simp only [delB, cutB, List.mem_append, List.mem_singleton]
 cases B q' p' <;> by_cases h1 : q' ∈ l <;> by_cases h2 : q' = q <;> by_cases h3 : p' = p <;> simp [h1, h2, h3]
set_option maxRecDepth 8000 in
set_option maxHeartbeats 1000000 in
theorem c_cut {p : Bs} {r : RowM} {K : TV -> TS -> Prop} (h : StG S s I L jd B roots ver tc) (hp : rowAt L p = some r) (hb : RowB r) (hj : jd.length <= 1000000)
 (hK : ∀ S' I' jd', StG S' s I' (dropP L p) jd' (cutB B r.refs p) roots ver (tc ++ (p :: r.refs).map fun q => (q, ver)) -> StTo S S' s I I' -> jd'.length = jd.length + 1 -> K (.tup []) S') :
 TCall env 75 [.ptr s 0, .lit (.string (st p))] S K := by
 have hrl := hb.rl
 have hdl := dT_len r.refs
 have hh : hasP L p = true := by unfold hasP; rw [hp]; rfl
 have hro : rowO (some r) = .agg [.lit (.string (st r.path)), .lit (.string (st r.name)), .sl .none 1 (dB r.arc), .sl .none 1 (dT r.refs)] := rfl
 have hos0 := h.os
 refine TCall.w 43 [] Tryz.func75 rfl rfl rfl rfl (by kernel_rfl) rfl ?_
 simp -implicitDefEqProofs (disch := omega) only [seval, go_sem]
 refine c_row h ?_
 rw [hp, hh]
 simp -implicitDefEqProofs (disch := omega) only [seval, go_sem, hro, hos0, psh_old0 h.os h.lt.1]
 generalize hS0 : S.push _ = S0
 have hbx0 : S0.objs S.n = .cells 44 [.lit (.string (st r.path)), .lit (.string (st r.name)), .sl .none 1 (dB r.arc), .sl .none 1 (dT r.refs)] := by rw [← hS0]; exact push_self _ _
 have h0 : StG S0 s I L jd B roots ver tc := by rw [← hS0]; exact h.push _
 have hn0 : S0.n = S.n + 1 := by rw [← hS0]; rfl
 have hto0 : StTo S S0 s I I := by rw [← hS0]; exact (StTo.refl _ _ _).push _
 have hnb : ¬ stF s I S.n := fun hh => Nat.lt_irrefl _ (h.flt _ hh)
 refine c_tab_Drop h0.tb hp fun S1 k1 tb1 f1 hk1 => ?_
 obtain ⟨g1, t1⟩ := h0.setTab tb1 f1 (.inl hk1)
 generalize hI1 : ({ I with k := k1 } : StI) = I1 at *
 have hbx1 : S1.objs S.n = .cells 44 [.lit (.string (st r.path)), .lit (.string (st r.name)), .sl .none 1 (dB r.arc), .sl .none 1 (dT r.refs)] := t1.fr.old (by omega) hnb hbx0
 have hn1 := t1.fr.n
 have hnb1 := t1.not (by omega) hnb
 simp -implicitDefEqProofs (disch := omega) only [seval, go_sem, hbx1, hdl]
 refine loW_inv (fun n T S2 => ∃ (i : Nat), n + i = r.refs.length /\ T 0 = .ptr s 0 /\ T 1 = .lit (.string (st p)) /\ T 4 = .ptr S.n 0 /\ T 21 = .sl .none 1 (dT r.refs) /\ T 22 = .lit (.int .i64 (r.refs.length : Int)) /\ T 23 = .lit (.int .i64 (i : Int)) ∧
  StG S2 s I1 (dropP L p) (jd ++ [jE p (some r)]) (cutB B (r.refs.take i) p) roots ver tc /\ StTo S1 S2 s I1 I1) r.refs.length ?_ ?_
 · exact ⟨0, rfl, rfl, rfl, rfl, rfl, rfl, rfl, by rw [List.take_zero, cutB_nil]; exact g1, StTo.refl _ _ _⟩
 rintro n T S2 ⟨i, hi, q0, q1, q4, q21, q22, q23, g2, t2⟩
 have hbx2 : S2.objs S.n = .cells 44 [.lit (.string (st r.path)), .lit (.string (st r.name)), .sl .none 1 (dB r.arc), .sl .none 1 (dT r.refs)] := t2.fr.old (by omega) hnb1 hbx1
 have hn2 := t2.fr.n
 have hos := g2.os
 obtain ⟨es, clock, ks, om, mo, hg⟩ := g2.bk.om
 have hkeys : keysOk .string es = true := mo.ok
 simp -implicitDefEqProofs (disch := omega) only [seval, go_sem, q0, q1, q4, q21, q22, q23, hdl]
 refine cdK_d (fun hc => ?_) (fun hc => ?_)
 · have hlt : i < r.refs.length := by omega
   have hx := dT_get hlt
   have htk := take_succ_D r.refs (i := i) [] hlt
   generalize r.refs.getD i [] = q at *
   cases hq : I1.bf q with
   | none =>
    have hlk : lookT (.string (st q)) es (.lit (.map none)) = .lit (.map none) := by
     show lookT (kS.v q) es _ = _
     rw [look_get, hg, hq]; rfl
    simp -implicitDefEqProofs (disch := omega) only [seval, go_sem, q0, q1, q4, q21, q22, q23, hdl, hx, hos, om, hkeys, keyB_str, lkT_f, hlk]
    refine ⟨n - 1, by omega, i + 1, by omega, q0, q1, q4, q21, q22, rfl, ?_, t2⟩
    rw [htk]
    have hno := g2.bk.no q hq
    have : cutB B (r.refs.take i ++ [q]) p = cutB B (r.refs.take i) p := by
     funext q' p'
     have h1 := hno p'
     by_cases e : q' = q
     · subst e
       by_cases e2 : p' = p
       · subst e2
         rw [h1]
         simp [cutB]
       · simp [cutB, e2]
     · simp [cutB, e]
    rw [this]; exact g2
   | some id =>
    obtain ⟨es2, clock2, ks2, om2, mo2, hg2⟩ := (g2.bk.yes q id hq).1
    have hkeys2 : keysOk .string es2 = true := mo2.ok
    have hlk : lookT (.string (st q)) es (.lit (.map none)) = .mp id := by
     show lookT (kS.v q) es _ = _
     rw [look_get, hg, hq]; rfl
    simp -implicitDefEqProofs (disch := omega) only [seval, go_sem, q0, q1, q4, q21, q22, q23, hdl, hx, hos, om, hkeys, keyB_str, lkT_f, hlk, om2, hkeys2]
    refine ⟨n - 1, by omega, i + 1, by omega, q0, q1, q4, q21, q22, rfl, ?_, t2.trans (.own g2 (.inr ⟨q, hq⟩) _)⟩
    rw [htk, ← cutB_snoc]
    exact g2.cutOld hq om2 mo2 hg2
 · have e : i = r.refs.length := by omega
   subst e
   rw [List.take_length] at g2
   simp -implicitDefEqProofs (disch := omega) only [seval, go_sem, q0, q1, q4, q21, q22, q23, hdl, hbx2]
   rw [dT_one]
   refine c_touchG g2 (fun S3 g3 t3 n3 => ?_) (.inl rfl) (by simp)
   have hbx3 : S3.objs S.n = .cells 44 [.lit (.string (st r.path)), .lit (.string (st r.name)), .sl .none 1 (dB r.arc), .sl .none 1 (dT r.refs)] := t3.fr.old (by omega) (t2.not (by omega) hnb1) hbx2
   simp -implicitDefEqProofs (disch := omega) only [seval, go_sem, q0, q1, q4, q21, q22, q23, hdl, hbx3]
   refine c_touchG g3 (fun S4 g4 t4 n4 => ?_) (.inl rfl)
   simp -implicitDefEqProofs (disch := omega) only [seval, go_sem]
   refine hK S4 I1 (jd ++ [jE p (some r)]) ?_ ((((hto0.trans t1).trans t2).trans t3).trans t4) (by rw [List.length_append]; rfl)
   rw [List.append_assoc, ← List.map_append] at g4
   exact g4
end
end Go.Proofs.YtoldjfappfbfbaaGreatDoor
namespace Go.Proofs.YtoldjfappfbfbaaGreatDoor
open Go.RowKit TL
theorem rowAt_of_mem {L : List RowM} (hnd : (pathsOf L).Nodup) {r : RowM} (hr : r ∈ L) : rowAt L r.path = some r := by
 induction L with
 | nil => cases hr
 | cons x L ih =>
  unfold rowAt
  rw [List.find?_cons]
  unfold pathsOf at hnd
  rw [List.map_cons, List.nodup_cons] at hnd
  rcases List.mem_cons.1 hr with e | hr
  · subst e; rw [decide_eq_true rfl]
  · have hne : x.path ≠ r.path := fun e => hnd.1 (by rw [e]; exact List.mem_map.2 ⟨r, hr, rfl⟩)
    rw [decide_eq_false hne]
    exact ih hnd.2 hr
theorem backB_drop {L : List RowM} (hnd : (pathsOf L).Nodup) {p : Bs} {r : RowM} (hp : rowAt L p = some r) : backB (dropP L p) = cutB (backB L) r.refs p := by
 funext q' p'
 obtain ⟨h1, h2⟩ := rowAt_path hp
 rw [Bool.eq_iff_iff]
 simp only [cutB, Bool.and_eq_true, Bool.not_eq_true', Bool.and_eq_false_iff, decide_eq_false_iff_not, backB_iff, dropP, List.mem_filter, decide_eq_true_eq]
 constructor
 · rintro ⟨x, ⟨hx, hxp⟩, hp', hq⟩
   exact ⟨⟨x, hx, hp', hq⟩, .inr fun e => hxp (by rw [hp', e])⟩
 · rintro ⟨⟨x, hx, hp', hq⟩, h⟩
   refine ⟨x, ⟨hx, fun e => ?_⟩, hp', hq⟩
   have : some x = some r := by rw [← rowAt_of_mem hnd hx, e, hp]
   injection this with this
   subst this
   rcases h with h | h
   · exact h hq
   · exact h (by rw [← hp', e])
theorem find_born {es : Ents} (h : (es.map (·.2.1)).Nodup) {j : Nat} {e : Value × Nat × TV} (hj : es[j]? = some e) : es.find? (fun x => x.2.1 == e.2.1) = some e := by
 induction es generalizing j with
 | nil => cases hj
 | cons x es ih =>
  rw [List.map_cons, List.nodup_cons] at h
  rw [List.find?_cons]
  cases j with
  | zero => simp at hj; subst hj; simp
  | succ j =>
   simp at hj
   have hm : e ∈ es := List.mem_of_getElem? hj
   have hne : ¬ x.2.1 = e.2.1 := fun e2 => h.1 (by rw [e2]; exact List.mem_map.2 ⟨e, hm, rfl⟩)
   rw [beq_eq_false_iff_ne.2 hne]
   exact ih h.2 hj
theorem filter_lt {α : Type} {l : List α} {p p' : α -> Bool} {e : α} (he : e ∈ l) (h1 : p e = true) (h2 : p' e = false) (h : ∀ x, p' x = true -> p x = true) : (l.filter p').length < (l.filter p).length := by
 induction l with
 | nil => cases he
 | cons x l ih =>
  rw [List.filter_cons, List.filter_cons]
  have hle : (l.filter p').length <= (l.filter p).length := by
   clear ih he
   induction l with
   | nil => exact Nat.le_refl _
   | cons y l ih2 =>
    rw [List.filter_cons, List.filter_cons]
    cases hy : p' y with
    | true => rw [h y hy]; simpa using ih2
    | false =>
     cases p y
     · simpa using ih2
     · simp; omega
  rcases List.mem_cons.1 he with e1 | he
  · subst e1
    rw [h1, h2]
    simp; omega
  · have := ih he
    cases hx : p' x with
    | true => rw [h x hx]; simpa using this
    | false =>
     cases p x
     · simpa using this
     · simp; omega
theorem last_snoc (l : List Nat) (x : Nat) : (l ++ [x]).getLast? = some x := by simp
theorem cutM_one (M : StM) {p : Bs} {r : RowM} (hnd : (pathsOf M.L).Nodup) (hp : rowAt M.L p = some r) : cutM M [p] = { L := dropP M.L p, roots := M.roots, ver := M.ver + 1#64, tc := M.tc ++ (p :: r.refs).map fun q => (q, M.ver + 1#64) } := by
 obtain ⟨h1, h2⟩ := rowAt_path hp
 have hf : (M.L.filter fun r => decide (r.path ∈ [p])) = [r] := by
  have : ∀ (L : List RowM), (pathsOf L).Nodup -> rowAt L p = some r -> (L.filter fun r => decide (r.path ∈ [p])) = [r] := by
   intro L
   induction L with
   | nil => intro _ h; cases h
   | cons x L ih =>
    intro hnd hp
    unfold pathsOf at hnd
    rw [List.map_cons, List.nodup_cons] at hnd
    unfold rowAt at hp
    rw [List.find?_cons] at hp
    rw [List.filter_cons]
    by_cases e : x.path = p
    · rw [decide_eq_true e] at hp
      injection hp with hp
      subst hp
      rw [if_pos (by simp [e])]
      congr 1
      apply List.filter_eq_nil_iff.2
      intro y hy
      simp only [List.mem_singleton, decide_eq_true_eq]
      intro e2
      exact hnd.1 (by rw [e, ← e2]; exact List.mem_map.2 ⟨y, hy, rfl⟩)
    · rw [decide_eq_false e] at hp
      rw [if_neg (by simp [e])]
      exact ih hnd.2 hp
  exact this M.L hnd hp
 have hd : (M.L.filter fun r => !decide (r.path ∈ [p])) = dropP M.L p := by
  unfold dropP
  apply List.filter_congr
  intro x _
  simp
 unfold cutM touchM
 rw [hf, hd]
 simp only [List.flatMap_cons, List.flatMap_nil, List.append_nil, rowTouch, h1]
section
variable {S : TS} {s : Nat} {I : StI} {M : StM}
theorem without_nil {L : List RowM} {p : Bs} : withoutL (referrersL L p) p = [] ↔ ∀ q, backB L p q = true -> q = p := by
 unfold withoutL
 rw [List.filter_eq_nil_iff]
 constructor
 · intro h q hq
   obtain ⟨r, hr, h1, h2⟩ := (backB_iff L p q).1 hq
   have := h q (by rw [referrersL, riseL_mem]; exact List.mem_map.2 ⟨r, List.mem_filter.2 ⟨hr, by simpa using h2⟩, h1⟩)
   simpa using this
 · intro h q hq
   rw [referrersL, riseL_mem] at hq
   obtain ⟨r, hr, h1⟩ := List.mem_map.1 hq
   obtain ⟨hr, h2⟩ := List.mem_filter.1 hr
   have := h q ((backB_iff L p q).2 ⟨r, hr, h1, by simpa using h2⟩)
   simpa using this
set_option maxRecDepth 8000 in
set_option maxHeartbeats 1000000 in
theorem c_Delete {p : Bs} {K : TV -> TS -> Prop} (h : StOk S s I M) (hnd : (pathsOf M.L).Nodup) (hb : ∀ r ∈ M.L, RowB r)
 (hK : ∀ S' I', StOk S' s I' (deleteM M p).1 -> StTo S S' s I I' -> K (.lit (.int .i64 (deleteM M p).2)) S') : TCall env 32 [.ptr s 0, .lit (.string (st p))] S K := by
 have hos := h.os
 obtain ⟨es, clock, ks, om, mo, hg⟩ := h.bk.om
 have hkeys : keysOk .string es = true := mo.ok
 obtain ⟨esr, cr, kr, omr, mor, hgr⟩ := h.rt
 have hkeysr : keysOk .string esr = true := mor.ok
 have hlkr := SetOk.look hgr p
 unfold deleteM at hK
 refine TCall.w 45 [.tmp 4] Tryz.func32 rfl rfl rfl rfl (by kernel_rfl) rfl ?_
 simp -implicitDefEqProofs (disch := omega) only [seval, go_sem]
 refine c_Has h ?_
 cases hh : hasP M.L p
 · rw [if_pos hh] at hK
   simp -implicitDefEqProofs (disch := omega) only [seval, go_sem]
   exact hK S I h (StTo.refl _ _ _)
 · rw [if_neg (by rw [hh]; simp)] at hK
   obtain ⟨r, hp⟩ : ∃ r, rowAt M.L p = some r := Option.isSome_iff_exists.1 hh
   have hrb := hb r (rowAt_path hp).2
   cases hq : I.bf p with
   | none =>
    have hlk : lookT (.string (st p)) es (.lit (.map none)) = .lit (.map none) := by
     show lookT (kS.v p) es _ = _
     rw [look_get, hg, hq]; rfl
    simp -implicitDefEqProofs (disch := omega) only [seval, go_sem, hos, om, hkeys, keyB_str, lkT_f, hlk]
    refine loW_inv (fun n T S1 => T 0 = .ptr s 0 /\ T 1 = .lit (.string (st p)) /\ T 16 = .ptr S.n 0 /\ S1 = S.push (.iter none 0 [] 0)) 0 ⟨rfl, rfl, rfl, rfl⟩ ?_
    rintro n T S1 ⟨q0, q1, q16, hS1⟩
    have hit : S1.objs S.n = .iter none 0 [] 0 := by rw [hS1]; exact push_self _ _
    have g1 : StOk S1 s I M := by rw [hS1]; exact StG.push h _
    have t1 : StTo S S1 s I I := by rw [hS1]; exact (StTo.refl _ _ _).push _
    have hom1 : S1.objs I.rt = .map esr cr := by rw [hS1]; exact psh_old0 omr h.lt.2.2.1
    have hall : ∀ q, backB M.L p q = true -> q = p := fun q hb => by rw [h.bk.no p hq] at hb; cases hb
    simp -implicitDefEqProofs (disch := omega) only [seval, go_sem, q0, q1, q16, hit]
    by_cases hr : p ∈ M.roots
    · rw [if_pos (.inl hr)] at hK
      rw [decide_eq_true hr] at hlkr
      simp -implicitDefEqProofs (disch := omega) only [seval, go_sem, q0, q1, g1.os, hom1, hkeysr, keyB_str, lkT_f, hlkr]
      exact hK S1 I g1 t1
    · rw [if_neg (by rintro (h | h); exact hr h; exact h (without_nil.2 hall))] at hK
      rw [decide_eq_false hr] at hlkr
      simp -implicitDefEqProofs (disch := omega) only [seval, go_sem, q0, q1, g1.os, hom1, hkeysr, keyB_str, lkT_f, hlkr]
      have g2 := g1.setVer (M.ver + 1#64)
      have t2 := StTo.own g1 (stF_s s I) (.cells 114 [.ptr I.tab 0, .mp I.bk, .mp I.rt, .mp I.sm, .lit (w64 (M.ver + 1#64))])
      refine c_cut g2 hp hrb (by simp) fun S3 I3 jd3 g3 t3 _ => ?_
      simp -implicitDefEqProofs (disch := omega) only [seval, go_sem, q0, q1, g3.os]
      refine c_tab_Done g3.tb fun S4 k4 tb4 f4 hk4 => ?_
      obtain ⟨g4, t4⟩ := g3.setTab tb4 f4 (.inl hk4)
      simp -implicitDefEqProofs (disch := omega) only [seval, go_sem]
      refine hK S4 _ ?_ (((t1.trans t2).trans t3).trans t4)
      rw [cutM_one M hnd hp]
      unfold StOk
      rw [backB_drop hnd hp]
      exact g4
   | some id =>
    obtain ⟨es2, clock2, ks2, om2, mo2, hg2⟩ := (h.bk.yes p id hq).1
    have hidl := (h.bk.yes p id hq).2
    have hlk : lookT (.string (st p)) es (.lit (.map none)) = .mp id := by
     show lookT (kS.v p) es _ = _
     rw [look_get, hg, hq]; rfl
    simp -implicitDefEqProofs (disch := omega) only [seval, go_sem, hos, om, hkeys, keyB_str, lkT_f, hlk, om2]
    refine loW_inv (fun n T S1 => ∃ seen : List Nat, T 0 = .ptr s 0 /\ T 1 = .lit (.string (st p)) /\ T 16 = .ptr S.n 0 /\ S1 = S.push (.iter (some id) clock2 seen clock2) /\ (∀ e ∈ es2, e.2.1 ∈ seen -> e.1 = kS.v p) /\ n = (es2.filter fun e => !decide (e.2.1 ∈ seen)).length) es2.length ?_ ?_
    · refine ⟨[], rfl, rfl, rfl, rfl, (fun e _ h => by simp at h), ?_⟩
      rw [List.filter_eq_self.2 (by simp)]
    rintro n T S1 ⟨seen, q0, q1, q16, hS1, hsn, hn⟩
    have hit : S1.objs S.n = .iter (some id) clock2 seen clock2 := by rw [hS1]; exact push_self _ _
    have g1 : StOk S1 s I M := by rw [hS1]; exact StG.push h _
    have t1 : StTo S S1 s I I := by rw [hS1]; exact (StTo.refl _ _ _).push _
    have hom1 : S1.objs I.rt = .map esr cr := by rw [hS1]; exact psh_old0 omr h.lt.2.2.1
    have hid1 : S1.objs id = .map es2 clock2 := by rw [hS1]; exact psh_old0 om2 hidl
    simp -implicitDefEqProofs (disch := omega) only [seval, go_sem, q0, q1, q16, hit, hid1]
    have hnb : ¬ stF s I S.n := fun hh => Nat.lt_irrefl _ (StG.flt h _ hh)
    refine ⟨mo2.born, fun j e hj hne => ?_, fun hall0 => ?_⟩
    · have hem : e ∈ es2 := List.mem_of_getElem? hj
      obtain ⟨q, hqk, he⟩ : ∃ q ∈ ks2, kS.v q = e.1 := by
       have : e.1 ∈ ks2.map kS.v := by rw [← mo2.keys]; exact List.mem_map.2 ⟨e, hem, rfl⟩
       exact List.mem_map.1 this
      have he' : e.1 = .string (st q) := he.symm
      have hlast := last_snoc seen e.2.1
      have hfind := find_born mo2.bnd hj
      have hBq : backB M.L p q = true := (SetOk.mem mo2 hg2 q).1 hqk
      simp only [hlast, hfind]
      simp -implicitDefEqProofs (disch := omega) only [seval, go_sem, q0, q1, q16, hit, hid1, he']
      refine cdK_d (fun hc => ?_) (fun hc => ?_)
      · rw [if_pos (.inr fun e => hc (without_nil.1 e q hBq))] at hK
        simp -implicitDefEqProofs (disch := omega) only [seval, go_sem]
        exact hK _ I (StG.setOut g1 hnb _) (t1.set (Nat.le_refl _) _)
      · have hqp : q = p := by simpa using hc
        simp -implicitDefEqProofs (disch := omega) only [seval, go_sem]
        refine ⟨(es2.filter fun x => !decide (x.2.1 ∈ seen ++ [e.2.1])).length, ?_, seen ++ [e.2.1], q0, q1, q16, by rw [hS1, push_set], fun x hx hxs => ?_, rfl⟩
        · rw [hn]
          exact filter_lt hem (by simpa using hne) (by simp) fun x hx => by
           simp only [List.mem_append, List.mem_singleton, not_or, Bool.not_eq_true', decide_eq_false_iff_not] at hx ⊢
           exact hx.1
        · rcases List.mem_append.1 hxs with h1 | h1
          · exact hsn x hx h1
          · obtain ⟨jx, hjx⟩ := List.mem_iff_getElem?.1 hx
            have h2 := find_born mo2.bnd hjx
            rw [List.mem_singleton.1 h1, hfind] at h2
            injection h2 with h2
            rw [← h2, he', hqp]; rfl
    · have hall : ∀ q, backB M.L p q = true -> q = p := fun q hb => by
       have hqk := (SetOk.mem mo2 hg2 q).2 hb
       have : kS.v q ∈ es2.map (·.1) := by rw [mo2.keys]; exact List.mem_map.2 ⟨q, hqk, rfl⟩
       obtain ⟨e, he, h1⟩ := List.mem_map.1 this
       have h2 := hsn e he (hall0 e he)
       rw [h1] at h2
       exact (kS.eq q p).1 (by rw [h2]; exact (kS.eq p p).2 rfl)
      by_cases hr : p ∈ M.roots
      · rw [if_pos (.inl hr)] at hK
        rw [decide_eq_true hr] at hlkr
        simp -implicitDefEqProofs (disch := omega) only [seval, go_sem, q0, q1, g1.os, hom1, hkeysr, keyB_str, lkT_f, hlkr]
        exact hK S1 I g1 t1
      · rw [if_neg (by rintro (h | h); exact hr h; exact h (without_nil.2 hall))] at hK
        rw [decide_eq_false hr] at hlkr
        simp -implicitDefEqProofs (disch := omega) only [seval, go_sem, q0, q1, g1.os, hom1, hkeysr, keyB_str, lkT_f, hlkr]
        have g2 := g1.setVer (M.ver + 1#64)
        have t2 := StTo.own g1 (stF_s s I) (.cells 114 [.ptr I.tab 0, .mp I.bk, .mp I.rt, .mp I.sm, .lit (w64 (M.ver + 1#64))])
        refine c_cut g2 hp hrb (by simp) fun S3 I3 jd3 g3 t3 _ => ?_
        simp -implicitDefEqProofs (disch := omega) only [seval, go_sem, q0, q1, g3.os]
        refine c_tab_Done g3.tb fun S4 k4 tb4 f4 hk4 => ?_
        obtain ⟨g4, t4⟩ := g3.setTab tb4 f4 (.inl hk4)
        simp -implicitDefEqProofs (disch := omega) only [seval, go_sem]
        refine hK S4 _ ?_ (((t1.trans t2).trans t3).trans t4)
        rw [cutM_one M hnd hp]
        unfold StOk
        rw [backB_drop hnd hp]
        exact g4
end
end Go.Proofs.YtoldjfappfbfbaaGreatDoor
namespace Go.Proofs.YtoldjfappfbfbaaGreatDoor
open Go.RowKit TL
def muL (L : List RowM) (sn : List Bs) : Nat := ((L.filter fun r => !decide (r.path ∈ sn)).map fun r => r.refs.length + 1).sum
theorem muL_le (p : Bs) (sn : List Bs) : ∀ (L : List RowM), muL L (p :: sn) <= muL L sn
 | [] => Nat.le_refl _
 | x :: L => by
  have ih := muL_le p sn L
  unfold muL at ih ⊢
  rw [List.filter_cons, List.filter_cons]
  by_cases h1 : x.path ∈ sn
  · rw [if_neg (by simp [h1]), if_neg (by simp [h1])]; exact ih
  · rw [if_pos (by simp [h1] : (!decide (x.path ∈ sn)) = true)]
    by_cases h2 : x.path = p
    · rw [if_neg (by simp [h2])]; simp only [List.map_cons, List.sum_cons]; omega
    · rw [if_pos (by simp [h1, h2])]; simp only [List.map_cons, List.sum_cons]; omega
theorem muL_new (sn : List Bs) {r : RowM} (hn : r.path ∉ sn) : ∀ (L : List RowM), r ∈ L -> muL L (r.path :: sn) + (r.refs.length + 1) <= muL L sn
 | [], h => by cases h
 | x :: L, h => by
  have hle := muL_le r.path sn L
  rcases List.mem_cons.1 h with e | h
  · subst e
    unfold muL at hle ⊢
    rw [List.filter_cons, List.filter_cons, if_neg (by simp), if_pos (by simp [hn])]
    simp only [List.map_cons, List.sum_cons]; omega
  · have ih := muL_new sn hn L h
    unfold muL at ih ⊢
    rw [List.filter_cons, List.filter_cons]
    by_cases h1 : x.path ∈ sn
    · rw [if_neg (by simp [h1]), if_neg (by simp [h1])]; exact ih
    · rw [if_pos (by simp [h1] : (!decide (x.path ∈ sn)) = true)]
      by_cases h2 : x.path = r.path
      · rw [if_neg (by simp [h2])]; simp only [List.map_cons, List.sum_cons]; omega
      · rw [if_pos (by simp [h1, h2])]; simp only [List.map_cons, List.sum_cons]; omega
structure RchI (L : List RowM) (from_ sn todo : List Bs) : Prop where
 s : ∀ p ∈ sn, Rch L from_ p
 t : ∀ p ∈ todo, p ∈ from_ ∨ ∃ q ∈ sn, p ∈ refsOf L q
 a : ∀ p ∈ from_, hasP L p = true -> p ∈ sn ∨ p ∈ todo
 b : ∀ q ∈ sn, ∀ p ∈ refsOf L q, hasP L p = true -> p ∈ sn ∨ p ∈ todo
theorem RchI.start (L : List RowM) (from_ : List Bs) : RchI L from_ [] from_ := ⟨fun p h => (by cases h), fun p h => .inl h, fun p h _ => .inr h, fun q h => by cases h⟩
theorem RchI.skip {L : List RowM} {from_ sn todo : List Bs} {p : Bs} (h : RchI L from_ sn (todo ++ [p])) (hp : hasP L p = false ∨ p ∈ sn) : RchI L from_ sn todo := by
 have key : ∀ x, hasP L x = true -> x ∈ sn ∨ x ∈ todo ++ [p] -> x ∈ sn ∨ x ∈ todo := by
  intro x hx hh
  rcases hh with hh | hh
  · exact .inl hh
  · rcases List.mem_append.1 hh with hh | hh
    · exact .inr hh
    · rw [List.mem_singleton.1 hh] at hx ⊢
      rcases hp with hp | hp
      · rw [hp] at hx; cases hx
      · exact .inl hp
 exact ⟨h.s, fun x hx => h.t x (List.mem_append_left _ hx), fun x hx hh => key x hh (h.a x hx hh), fun q hq x hx hh => key x hh (h.b q hq x hx hh)⟩
theorem RchI.take {L : List RowM} {from_ sn todo : List Bs} {p : Bs} (h : RchI L from_ sn (todo ++ [p])) (hp : hasP L p = true) : RchI L from_ (p :: sn) (todo ++ refsOf L p) := by
 have hr : Rch L from_ p := by
  rcases h.t p (by simp) with h1 | ⟨q, hq, h1⟩
  · exact .base h1 hp
  · exact .step (h.s q hq) h1 hp
 refine ⟨fun x hx => ?_, fun x hx => ?_, fun x hx hh => ?_, fun q hq x hx hh => ?_⟩
 · rcases List.mem_cons.1 hx with e | hx
   · rw [e]; exact hr
   · exact h.s x hx
 · rcases List.mem_append.1 hx with hx | hx
   · rcases h.t x (List.mem_append_left _ hx) with h1 | ⟨q, hq, h1⟩
     · exact .inl h1
     · exact .inr ⟨q, List.mem_cons_of_mem _ hq, h1⟩
   · exact .inr ⟨p, by simp, hx⟩
 · rcases h.a x hx hh with h1 | h1
   · exact .inl (List.mem_cons_of_mem _ h1)
   · rcases List.mem_append.1 h1 with h1 | h1
     · exact .inr (List.mem_append_left _ h1)
     · rw [List.mem_singleton.1 h1]; exact .inl (by simp)
 · rcases List.mem_cons.1 hq with e | hq
   · subst e; exact .inr (List.mem_append_right _ hx)
   · rcases h.b q hq x hx hh with h1 | h1
     · exact .inl (List.mem_cons_of_mem _ h1)
     · rcases List.mem_append.1 h1 with h1 | h1
       · exact .inr (List.mem_append_left _ h1)
       · rw [List.mem_singleton.1 h1]; exact .inl (by simp)
theorem RchI.done {L : List RowM} {from_ sn : List Bs} (h : RchI L from_ sn []) (p : Bs) : p ∈ sn ↔ p ∈ reachL L from_ := by
 rw [(reachL_ok L from_).2 p]
 refine ⟨h.s p, fun hr => ?_⟩
 induction hr with
 | base hf hp => exact (h.a _ hf hp).resolve_right (by simp)
 | step _ hq hp ih => exact (h.b _ ih _ hq hp).resolve_right (by simp)
section
variable {S : TS} {s : Nat} {I : StI} {L : List RowM} {jd : List D} {B : Bs -> Bs -> Bool} {roots : List Bs} {ver : BitVec 64} {tc : List (Bs × BitVec 64)}
set_option maxRecDepth 8000 in
set_option maxHeartbeats 1000000 in
theorem c_reach {g : Tag} {sz : Nat} {l : List Bs} {K : TV -> TS -> Prop} (h : StG S s I L jd B roots ver tc) (hz : sz = 1 ∨ l = []) (hN : l.length + muL L [] <= 1000000)
 (hK : ∀ S' m, SetOk S' m (fun p => decide (p ∈ reachL L l)) -> S.n <= m -> m < S'.n -> Keep S S' -> K (.mp m) S') : TCall env 87 [.ptr s 0, .sl g sz (dT l)] S K := by
 refine TCall.w 47 [.tmp 4] Tryz.func87 rfl rfl rfl rfl (by kernel_rfl) rfl ?_
 simp -implicitDefEqProofs (disch := omega) only [seval, go_sem]
 refine c_Clone_TV ?_ hz
 simp -implicitDefEqProofs (disch := omega) only [seval, go_sem]
 refine loW_inv (fun n T S1 => ∃ (sn todo : List Bs) (kt : Nat), n = todo.length + muL L sn /\ n <= 1000000 /\ T 0 = .ptr s 0 /\ T 5 = .mp S.n /\ T 6 = .vs kt 0 1 todo.length /\ S1.objs kt = .cells 9 (cellsD (dT todo)) /\ S.n < kt /\ kt < S1.n ∧
  SetOk S1 S.n (fun p => decide (p ∈ sn)) /\ Keep S S1 /\ RchI L l sn todo) (l.length + muL L []) ?_ ?_
 · refine ⟨[], l, S.n + 1, rfl, hN, rfl, rfl, rfl, push_self (S.push _) _, Nat.lt_succ_self _, Nat.lt_succ_self _, ?_, (Keep.push _ _).push' _, RchI.start L l⟩
   exact ⟨[], 0, [], psh_old0 (push_self _ _) (Nat.lt_succ_self _), MapOk.nil, fun p => by simp [getM_nil]⟩
 rintro n T S1 ⟨sn, todo, kt, hn, hnN, q0, q5, q6, hkt, hk1, hk2, ⟨es, clock, ks, om, mo, hg⟩, hkp, hI⟩
 have hst : StG S1 s I L jd B roots ver tc := h.fr hkp.1 fun id hid => hkp.2 id (h.flt id hid)
 have hkeys : keysOk .string es = true := mo.ok
 have hns := hkp.1
 simp -implicitDefEqProofs (disch := omega) only [seval, go_sem, q0, q5, q6]
 refine cdK_d (fun hc => ?_) (fun hc => ?_)
 · obtain ⟨todo, p, rfl⟩ : ∃ t p, todo = t ++ [p] := by
    rcases List.eq_nil_or_concat todo with e | ⟨t, p, e⟩
    · rw [e] at hc; simp at hc
    · exact ⟨t, p, by simpa using e⟩
   have hlen : (todo ++ [p]).length = todo.length + 1 := by simp
   have hcl : (cellsD (dT (todo ++ [p]))).length = todo.length + 1 := by rw [cT_len]; simp
   have hget : (cellsD (dT (todo ++ [p]))).getD todo.length .unk = .lit (.string (st p)) := by
    rw [cT_get (by simp)]; simp
   have hsl : tvSlice 1 (.vs kt 0 1 (todo.length + 1)) none (some (todo.length : Int)) none = some (.vs kt 0 1 todo.length) := by
    simp [tvSlice]
    omega
   simp -implicitDefEqProofs (disch := omega) only [seval, go_sem, q0, q5, q6, hkt, hlen, hcl, hget, hsl]
   have hnk : ¬ stF s I kt := fun hh => by have := h.flt _ hh; omega
   refine TCall.gh0 (Gh.trunc hkt todo.length) ?_
   have hctk : (cellsD (dT (todo ++ [p]))).take todo.length = cellsD (dT todo) := by rw [cT_take]; simp
   rw [hctk]
   have hkt2 := TS.set_same' S1 kt (.cells 9 (cellsD (dT todo)))
   have hst2 := hst.setOut hnk (.cells 9 (cellsD (dT todo)))
   have om2 : (S1.set kt (.cells 9 (cellsD (dT todo)))).objs S.n = .map es clock := (st_old _ (by omega)).trans om
   have hkp2 : Keep S (S1.set kt (.cells 9 (cellsD (dT todo)))) := hkp.set (by omega) _
   have hn2 : (S1.set kt (.cells 9 (cellsD (dT todo)))).n = S1.n := rfl
   generalize S1.set kt (.cells 9 (cellsD (dT todo))) = S2 at *
   rw [hlen] at hn
   refine c_row hst2 ?_
   cases hp : rowAt L p with
   | none =>
    have hh : hasP L p = false := by unfold hasP; rw [hp]; rfl
    have hro : rowO none = .agg [.lit (.string (st [])), .lit (.string (st [])), .sl .full 0 [], .sl .full 0 []] := rfl
    rw [hh]
    simp -implicitDefEqProofs (disch := omega) only [seval, go_sem, q0, q5, hro]
    exact ⟨n - 1, by omega, sn, todo, kt, by omega, by omega, q0, q5, rfl, psh_old0 hkt2 (by omega), hk1, by rw [TS.push_n]; omega, ⟨es, clock, ks, psh_old0 om2 (by omega), mo, hg⟩, hkp2.push' _, hI.skip (.inl hh)⟩
   | some r =>
    have hh : hasP L p = true := by unfold hasP; rw [hp]; rfl
    have hro : rowO (some r) = .agg [.lit (.string (st r.path)), .lit (.string (st r.name)), .sl .none 1 (dB r.arc), .sl .none 1 (dT r.refs)] := rfl
    have hlk := SetOk.look hg p
    have hrf : refsOf L p = r.refs := by unfold refsOf; rw [hp]
    obtain ⟨hrp, hrm⟩ := rowAt_path hp
    rw [hh]
    by_cases hs : p ∈ sn
    · rw [decide_eq_true hs] at hlk
      simp -implicitDefEqProofs (disch := omega) only [seval, go_sem, q0, q5, hro, psh_old0 om2 (by omega), om2, hkeys, keyB_str, lkT_f, hlk]
      exact ⟨n - 1, by omega, sn, todo, kt, by omega, by omega, q0, q5, rfl, psh_old0 hkt2 (by omega), hk1, by rw [TS.push_n]; omega, ⟨es, clock, ks, psh_old0 om2 (by omega), mo, hg⟩, hkp2.push' _, hI.skip (.inr hs)⟩
    · rw [decide_eq_false hs] at hlk
      have hmu := muL_new sn (r := r) (by rw [hrp]; exact hs) L hrm
      have hdl := dT_len r.refs
      have hct := cT_len todo
      rw [hrp] at hmu
      simp -implicitDefEqProofs (disch := omega) only [seval, go_sem, q0, q5, hro, om2, hkeys, keyB_str, lkT_f, hlk, hkt2, hdl, hct]
      refine ⟨(todo ++ r.refs).length + muL L (p :: sn), by simp; omega, p :: sn, todo ++ r.refs, S2.n + 1, rfl, by simp; omega, q0, q5, by rw [List.length_append]; rfl, push_self (TS.push _ _) _, by omega, Nat.lt_succ_self _, ?_, (((hkp2.set (Nat.le_refl _) _).set (by omega) _).push' _).push' _, by rw [← hrf]; exact hI.take hh⟩
      refine SetOk.putT (p := p) mo hg (psh_old0 (S := TS.push _ _) (psh_old0 (S := TS.set _ _ _) ((st_old _ (by omega)).trans (TS.set_same' _ _ _)) (by show S.n < S2.n; omega)) (by show S.n < S2.n + 1; omega)) fun p' => ?_
      by_cases e : p' = p <;> simp [e]
 · have e : todo = [] := List.eq_nil_of_length_eq_zero (by omega)
   subst e
   simp -implicitDefEqProofs (disch := omega) only [seval, go_sem, q0, q5, q6]
   refine hK S1 S.n ?_ (Nat.le_refl _) (by omega) hkp
   have hf : (fun p => decide (p ∈ reachL L l)) = fun p => decide (p ∈ sn) := by funext p; exact decide_eq_decide.2 (hI.done p).symm
   rw [hf]
   exact ⟨es, clock, ks, om, mo, hg⟩
theorem muL_bound {L : List RowM} (hL : L.length <= 1000) (hr : ∀ r ∈ L, r.refs.length <= 255) : muL L [] <= 256 * L.length := by
 unfold muL
 rw [List.filter_eq_self.2 (by simp)]
 clear hL
 induction L with
 | nil => exact Nat.le_refl _
 | cons x L ih =>
  have h1 := hr x (by simp)
  have h2 := ih fun r hm => hr r (List.mem_cons_of_mem _ hm)
  simp only [List.map_cons, List.sum_cons, List.length_cons]
  omega
set_option maxRecDepth 8000 in
set_option maxHeartbeats 1000000 in
theorem c_Closure {p : Bs} {K : TV -> TS -> Prop} (h : StG S s I L jd B roots ver tc) (hN : 1 + muL L [] <= 1000000) (hl : (reachL L [p]).length <= 1000000) (hb : ∀ q ∈ pathsOf L, q.length <= 1000000)
 (hK : K (.sl .none 1 (dT (reachL L [p]))) S) : TCall env 41 [.ptr s 0, .lit (.string (st p))] S K := by
 obtain ⟨hr1, hr2⟩ := reachL_ok L [p]
 refine TCall.toPure (r := .sl .none 1 (dT (reachL L [p]))) ?_ hK
 refine TCall.w 10 [.tmp 4] Tryz.func41 rfl rfl rfl rfl (by kernel_rfl) rfl ?_
 simp -implicitDefEqProofs (disch := omega) only [seval, go_sem]
 rw [dT_one]
 refine c_reach h (.inl rfl) (by simpa using hN) fun S1 m hm hm1 hm2 hk => ?_
 simp -implicitDefEqProofs (disch := omega) only [seval, go_sem]
 refine c_sorted hm hm2 hr1 (fun q => by simp) hl (fun q hq => hb q ((hasP_iff L q).1 ((hr2 q).1 hq).has)) ?_
 simp -implicitDefEqProofs (disch := omega) only [seval, go_sem]
 exact ⟨.slN _ _ _, hk⟩
set_option maxRecDepth 8000 in
set_option maxHeartbeats 1000000 in
theorem c_Live {K : TV -> TS -> Prop} (h : StG S s I L jd B roots ver tc) (hro : Ris roots) (hrl : roots.length <= 1000000) (hrb : ∀ p ∈ roots, p.length <= 1000000) (hN : roots.length + muL L [] <= 1000000) (hl : (reachL L roots).length <= 1000000) (hb : ∀ q ∈ pathsOf L, q.length <= 1000000)
 (hK : K (.sl .none 1 (dT (reachL L roots))) S) : TCall env 50 [.ptr s 0] S K := by
 obtain ⟨hr1, hr2⟩ := reachL_ok L roots
 refine TCall.toPure (r := .sl .none 1 (dT (reachL L roots))) ?_ hK
 refine TCall.w 8 [.tmp 2] Tryz.func50 rfl rfl rfl rfl (by kernel_rfl) rfl ?_
 simp -implicitDefEqProofs (disch := omega) only [seval, go_sem]
 refine c_Roots h hro hrl hrb ?_
 simp -implicitDefEqProofs (disch := omega) only [seval, go_sem]
 refine c_reach h (.inl rfl) hN fun S1 m hm hm1 hm2 hk => ?_
 simp -implicitDefEqProofs (disch := omega) only [seval, go_sem]
 refine c_sorted hm hm2 hr1 (fun q => by simp) hl (fun q hq => hb q ((hasP_iff L q).1 ((hr2 q).1 hq).has)) ?_
 simp -implicitDefEqProofs (disch := omega) only [seval, go_sem]
 exact ⟨.slN _ _ _, hk⟩
end
end Go.Proofs.YtoldjfappfbfbaaGreatDoor
namespace Go.Proofs.YtoldjfappfbfbaaGreatDoor
open Go.RowKit TL
theorem ris_filter {l : List Bs} (h : Ris l) (f : Bs -> Bool) : Ris (l.filter f) := h.filter f
theorem rowAt_filter_no (L : List RowM) (g : List Bs) {p : Bs} (hp : p ∉ g) : rowAt (L.filter fun r => !decide (r.path ∈ g)) p = rowAt L p := by
 unfold rowAt
 induction L with
 | nil => rfl
 | cons x L ih =>
  rw [List.filter_cons]
  by_cases h : x.path ∈ g
  · rw [if_neg (by simp [h]), ih, List.find?_cons, decide_eq_false (show ¬ x.path = p from fun e => hp (by rw [← e]; exact h))]
  · rw [if_pos (by simp [h]), List.find?_cons, List.find?_cons, ih]
theorem dropP_filter (L : List RowM) (g : List Bs) (p : Bs) : dropP (L.filter fun r => !decide (r.path ∈ g)) p = L.filter fun r => !decide (r.path ∈ g ++ [p]) := by
 unfold dropP
 rw [List.filter_filter]
 apply List.filter_congr
 intro x _
 by_cases h1 : x.path ∈ g <;> by_cases h2 : x.path = p <;> simp [h1, h2]
theorem nodup_paths_filter {L : List RowM} (h : (pathsOf L).Nodup) (f : RowM -> Bool) : (pathsOf (L.filter f)).Nodup := h.sublist (List.Sublist.map _ List.filter_sublist)
section
variable {S : TS} {s : Nat} {I : StI} {M : StM}
theorem StG.tcEq {L : List RowM} {jd : List D} {B : Bs -> Bs -> Bool} {roots : List Bs} {ver : BitVec 64} {tc tc' : List (Bs × BitVec 64)} (h : StG S s I L jd B roots ver tc) (e : ∀ p, stampT tc' p = stampT tc p) : StG S s I L jd B roots ver tc' :=
 ⟨h.os, h.tb, h.bk, h.rt, let ⟨es, c, ks, a, b, d⟩ := h.sm; ⟨es, c, ks, a, b, fun p => by rw [d, e]⟩, h.lt, h.nd, h.nb⟩
theorem touch_mem {L : List RowM} (hnd : (pathsOf L).Nodup) {gone : List Bs} (hg : ∀ p ∈ gone, p ∈ pathsOf L) (x : Bs) : x ∈ (gone.flatMap fun p => p :: refsOf L p) ↔ x ∈ (L.filter fun r => decide (r.path ∈ gone)).flatMap rowTouch := by
 rw [List.mem_flatMap, List.mem_flatMap]
 constructor
 · rintro ⟨p, hp, hx⟩
   obtain ⟨r, hr, e⟩ := List.mem_map.1 (hg p hp)
   have h1 := rowAt_of_mem hnd hr
   rw [e] at h1
   refine ⟨r, List.mem_filter.2 ⟨hr, by rw [e]; simpa using hp⟩, ?_⟩
   have h2 : refsOf L p = r.refs := by unfold refsOf; rw [h1]
   rw [h2] at hx
   rw [rowTouch, e]; exact hx
 · rintro ⟨r, hr, hx⟩
   obtain ⟨hr, h1⟩ := List.mem_filter.1 hr
   refine ⟨r.path, by simpa using h1, ?_⟩
   have h2 : refsOf L r.path = r.refs := by unfold refsOf; rw [rowAt_of_mem hnd hr]
   rw [h2]; exact hx
set_option maxRecDepth 8000 in
set_option maxHeartbeats 1000000 in
theorem c_Sweep {K : TV -> TS -> Prop} (h : StOk S s I M) (hnd : (pathsOf M.L).Nodup) (hb : ∀ r ∈ M.L, RowB r) (hr : Ris M.roots) (hrl : M.roots.length <= 100000) (hrb : ∀ p ∈ M.roots, p.length <= 100000) (hLl : M.L.length <= 100000) (hN : M.roots.length + muL M.L [] <= 1000000)
 (hK : ∀ S' I', StOk S' s I' (sweepM M).1 -> StTo S S' s I I' -> K (.sl .none 1 (dT (sweepM M).2)) S') : TCall env 40 [.ptr s 0] S K := by
 refine TCall.dgR ?_
 have hpl : (pathsOf M.L).length = M.L.length := by simp [pathsOf]
 have hpb : ∀ p ∈ pathsOf M.L, p.length <= 1000000 := fun p hp => by
  obtain ⟨r, hr, e⟩ := List.mem_map.1 hp
  have := (hb r hr).pt
  rw [e] at this; omega
 have hrl2 := riseL_len (pathsOf M.L)
 refine TCall.w 57 [.tmp 2] Tryz.func40 rfl rfl rfl rfl (by kernel_rfl) rfl ?_
 simp -implicitDefEqProofs (disch := omega) only [seval, go_sem]
 refine c_Roots h hr (by omega) (fun p hp => by have := hrb p hp; omega) ?_
 simp -implicitDefEqProofs (disch := omega) only [seval, go_sem]
 refine c_reach h (.inl rfl) hN fun S1 m hm hm1 hm2 hk1 => ?_
 have g1 : StG S1 s I M.L [] (backB M.L) M.roots M.ver M.tc := StG.fr h hk1.1 fun id hid => hk1.2 id (StG.flt h id hid)
 have hn1 := hk1.1
 simp -implicitDefEqProofs (disch := omega) only [seval, go_sem]
 refine c_Paths g1 (by omega) hpb ?_
 have hdl := dT_len (riseL (pathsOf M.L))
 simp -implicitDefEqProofs (disch := omega) only [seval, go_sem, hdl]
 refine loW.asRow 4 1 rfl (.inl rfl) ?_
 generalize hps : riseL (pathsOf M.L) = ps at *
 refine loW_inv (fun n T S2 => ∃ (i kg : Nat), n + i = ps.length /\ T 0 = .ptr s 0 /\ T 3 = .mp m /\ T 14 = .sl .none 1 (dT ps) /\ T 15 = .lit (.int .i64 (ps.length : Int)) /\ T 16 = .lit (.int .i64 (i : Int)) /\ T 4 = .sl (.own kg) 1 (dT ((ps.take i).filter fun p => !decide (p ∈ reachL M.L M.roots))) ∧
  S2.objs kg = .lin /\ S1.n <= kg /\ kg < S2.n /\ Keep S1 S2) ps.length ?_ ?_
 · exact ⟨0, S1.n, rfl, rfl, rfl, rfl, rfl, rfl, rfl, push_self _ _, Nat.le_refl _, Nat.lt_succ_self _, Keep.push _ _⟩
 rintro n T S2 ⟨i, kg, hi, q0, q3, q14, q15, q16, q4, hkg, hkg1, hkg2, hk2⟩
 have hm' : SetOk S2 m fun p => decide (p ∈ reachL M.L M.roots) := hm.fr (hk2.2 m hm2)
 obtain ⟨es, clock, ks, om, mo, hg⟩ := hm'
 have hkeys : keysOk .string es = true := mo.ok
 have hn2 := hk2.1
 simp -implicitDefEqProofs (disch := omega) only [seval, go_sem, q0, q3, q14, q15, q16, q4]
 refine cdK_d (fun hc => ?_) (fun hc => ?_)
 · have hlt : i < ps.length := by omega
   have hx := dT_get hlt
   have htk := take_succ_D ps (i := i) [] hlt
   generalize ps.getD i [] = p at *
   have hlk := SetOk.look hg p
   have hfl : ((ps.take i).filter fun p => !decide (p ∈ reachL M.L M.roots)).length <= i := Nat.le_trans (List.length_filter_le _ _) (by simp; omega)
   have hdf := dT_len ((ps.take i).filter fun p => !decide (p ∈ reachL M.L M.roots))
   by_cases hp : p ∈ reachL M.L M.roots
   · rw [decide_eq_true hp] at hlk
     simp -implicitDefEqProofs (disch := omega) only [seval, go_sem, q0, q3, q14, q15, q16, q4, hdl, hx, om, hkeys, keyB_str, lkT_f, hlk]
     refine ⟨n - 1, by omega, i + 1, kg, by omega, q0, q3, q14, q15, rfl, ?_, hkg, hkg1, hkg2, hk2⟩
     have e4 : (ps.take (i + 1)).filter (fun p => !decide (p ∈ reachL M.L M.roots)) = (ps.take i).filter fun p => !decide (p ∈ reachL M.L M.roots) := by
      rw [htk, List.filter_append]
      simp [hp]
     rw [e4]; exact q4
   · rw [decide_eq_false hp] at hlk
     simp -implicitDefEqProofs (disch := omega) only [seval, go_sem, q0, q3, q14, q15, q16, q4, hdl, hx, om, hkeys, keyB_str, lkT_f, hlk, hkg, hdf]
     refine ⟨n - 1, by omega, i + 1, S2.n, by omega, q0, q3, q14, q15, rfl, ?_, push_self _ _, by omega, Nat.lt_succ_self _, (hk2.set hkg1 _).push' _⟩
     rw [htk, List.filter_append]
     simp only [List.filter_cons, List.filter_nil, hp, decide_false, Bool.not_false, if_true]
     rw [dT_app]; rfl
 · have e : i = ps.length := by omega
   subst e
   rw [List.take_length] at q4
   have hgl : (ps.filter fun p => !decide (p ∈ reachL M.L M.roots)).length <= ps.length := List.length_filter_le _ _
   have hgm : ∀ p, p ∈ (ps.filter fun p => !decide (p ∈ reachL M.L M.roots)) ↔ p ∈ (pathsOf M.L).filter fun p => !decide (p ∈ reachL M.L M.roots) := fun p => by
    rw [List.mem_filter, List.mem_filter, ← hps, riseL_mem]
   have hgr : Ris (ps.filter fun p => !decide (p ∈ reachL M.L M.roots)) := ris_filter (by rw [← hps]; exact riseL_ris _) _
   have hge : riseL ((pathsOf M.L).filter fun p => !decide (p ∈ reachL M.L M.roots)) = ps.filter fun p => !decide (p ∈ reachL M.L M.roots) := ris_ext (riseL_ris _) hgr fun y => by rw [riseL_mem, hgm]
   have hgs : ∀ p ∈ (ps.filter fun p => !decide (p ∈ reachL M.L M.roots)), p ∈ pathsOf M.L := fun p hp => (List.mem_filter.1 ((hgm p).1 hp)).1
   have hnil : (pathsOf M.L).filter (fun p => !decide (p ∈ reachL M.L M.roots)) = [] ↔ ps.filter (fun p => !decide (p ∈ reachL M.L M.roots)) = [] := by
    constructor
    · intro e; rw [List.eq_nil_iff_forall_not_mem]; intro p hp; have := (hgm p).1 hp; rw [e] at this; cases this
    · intro e; rw [List.eq_nil_iff_forall_not_mem]; intro p hp; have := (hgm p).2 hp; rw [e] at this; cases this
   unfold sweepM at hK
   rw [hge] at hK
   simp only [hnil] at hK
   have hcut : ∀ r ∈ M.L, (decide (r.path ∈ (pathsOf M.L).filter fun p => !decide (p ∈ reachL M.L M.roots))) = decide (r.path ∈ ps.filter fun p => !decide (p ∈ reachL M.L M.roots)) := fun r _ => decide_eq_decide.2 (hgm r.path).symm
   have hcm : cutM M ((pathsOf M.L).filter fun p => !decide (p ∈ reachL M.L M.roots)) = cutM M (ps.filter fun p => !decide (p ∈ reachL M.L M.roots)) := by
    unfold cutM
    rw [List.filter_congr (fun r hr => by rw [hcut r hr]), List.filter_congr hcut]
   rw [hcm] at hK
   generalize ps.filter (fun p => !decide (p ∈ reachL M.L M.roots)) = gone at *
   have hdg := dT_len gone
   have g2 : StG S2 s I M.L [] (backB M.L) M.roots M.ver M.tc := g1.fr hk2.1 fun id hid => hk2.2 id (g1.flt id hid)
   have t2 : StTo S S2 s I I := ⟨(hk1.frm _).trans (hk2.frm _) fun x hx => .inl hx, fun id h => .inl h⟩
   have hs2 := g2.os
   simp -implicitDefEqProofs (disch := omega) only [seval, go_sem, q0, q3, q14, q15, q16, q4, hs2, hdg]
   refine cdK_d (fun hc2 => ?_) (fun hc2 => ?_)
   · have hne : gone ≠ [] := fun e => by rw [e] at hc2; simp at hc2
     rw [if_neg hne] at hK
     simp -implicitDefEqProofs (disch := omega) only [seval, go_sem, q0, q3, q14, q15, q16, q4, hs2, hdg]
     have g3 := g2.setVer (M.ver + 1#64)
     have t3 := StTo.own g2 (stF_s s I) (.cells 114 [.ptr I.tab 0, .mp I.bk, .mp I.rt, .mp I.sm, .lit (w64 (M.ver + 1#64))])
     generalize S2.set s _ = S3 at *
     have hgnd := ris_nodup hgr
     have hf0 : (M.L.filter fun r => !decide (r.path ∈ gone.take 0)) = M.L := List.filter_eq_self.2 (by simp)
     refine loW_inv (fun n T S4 => ∃ (i : Nat) (I4 : StI) (jd4 : List D), n + i = gone.length /\ T 0 = .ptr s 0 /\ T 4 = .sl (.own kg) 1 (dT gone) /\ T 39 = .sl (.own kg) 1 (dT gone) /\ T 40 = .lit (.int .i64 (gone.length : Int)) /\ T 41 = .lit (.int .i64 (i : Int)) /\ jd4.length = i ∧
      StG S4 s I4 (M.L.filter fun r => !decide (r.path ∈ gone.take i)) jd4 (backB (M.L.filter fun r => !decide (r.path ∈ gone.take i))) M.roots (M.ver + 1#64) (M.tc ++ ((gone.take i).flatMap fun p => p :: refsOf M.L p).map fun p => (p, M.ver + 1#64)) /\ StTo S3 S4 s I I4) gone.length ?_ ?_
     · refine ⟨0, I, [], rfl, q0, q4, rfl, rfl, rfl, rfl, ?_, StTo.refl _ _ _⟩
       rw [hf0]
       simp only [List.take_zero, List.flatMap_nil, List.map_nil, List.append_nil]
       exact g3
     rintro n T S4 ⟨i, I4, jd4, hi, r0, r4, r39, r40, r41, hj4, g4, t4⟩
     have hs4 := g4.os
     simp -implicitDefEqProofs (disch := omega) only [seval, go_sem, r0, r4, r39, r40, r41, hdg]
     refine cdK_d (fun hc3 => ?_) (fun hc3 => ?_)
     · have hlt : i < gone.length := by omega
       have hx := dT_get hlt
       have htk := take_succ_D gone (i := i) [] hlt
       have hpg : gone.getD i [] ∈ gone := getD_mem hlt
       have hpn : gone.getD i [] ∉ gone.take i := by
        have h1 := hgnd.sublist (List.take_sublist (i + 1) gone)
        rw [htk, List.nodup_append] at h1
        intro hm
        exact h1.2.2 _ hm _ (by simp) rfl
       generalize gone.getD i [] = p at *
       obtain ⟨r, hrL, hrp⟩ := List.mem_map.1 (hgs p hpg)
       have hrow0 := rowAt_of_mem hnd hrL
       rw [hrp] at hrow0
       have hrow : rowAt (M.L.filter fun r => !decide (r.path ∈ gone.take i)) p = some r := by rw [rowAt_filter_no _ _ hpn]; exact hrow0
       have hrefs : refsOf M.L p = r.refs := by unfold refsOf; rw [hrow0]
       simp -implicitDefEqProofs (disch := omega) only [seval, go_sem, r0, r4, r39, r40, r41, hdg, hx]
       refine c_cut g4 hrow (hb r hrL) (by omega) fun S5 I5 jd5 g5 t5 hj5 => ?_
       simp -implicitDefEqProofs (disch := omega) only [seval, go_sem, r0, r4, r39, r40, r41, hdg, hx]
       refine ⟨n - 1, by omega, i + 1, I5, jd5, by omega, r0, r4, r39, r40, rfl, by omega, ?_, t4.trans t5⟩
       rw [← backB_drop (nodup_paths_filter hnd _) hrow, dropP_filter, ← htk] at g5
       rw [htk, List.flatMap_append, List.map_append, ← List.append_assoc]
       rw [htk] at g5
       simpa [hrefs] using g5
     · have e : i = gone.length := by omega
       subst e
       rw [List.take_length] at g4
       simp -implicitDefEqProofs (disch := omega) only [seval, go_sem, r0, r4, r39, r40, r41, hdg, hs4]
       refine c_tab_Done g4.tb fun S5 k5 tb5 f5 hk5 => ?_
       obtain ⟨g5, t5⟩ := g4.setTab tb5 f5 (.inl hk5)
       simp -implicitDefEqProofs (disch := omega) only [seval, go_sem, r0, r4, r39, r40, r41, hdg]
       refine ⟨_, .sl _ _ _, hK S5 _ ?_ (((t2.trans t3).trans t4).trans t5)⟩
       refine g5.tcEq fun p => ?_
       show stampT (M.tc ++ List.map (fun p => (p, M.ver + 1#64)) ((M.L.filter fun r => decide (r.path ∈ gone)).flatMap rowTouch)) p = _
       rw [stampT_app, stampT_app]
       by_cases hp : p ∈ (M.L.filter fun r => decide (r.path ∈ gone)).flatMap rowTouch
       · rw [if_pos hp, if_pos ((touch_mem hnd hgs p).2 hp)]
       · rw [if_neg hp, if_neg fun hh => hp ((touch_mem hnd hgs p).1 hh)]
   · have hne : gone = [] := List.eq_nil_of_length_eq_zero (by omega)
     rw [if_pos hne] at hK
     subst hne
     simp -implicitDefEqProofs (disch := omega) only [seval, go_sem, q0, q3, q14, q15, q16, q4, hs2, hdg]
     refine loW_inv (fun n T S3 => T 0 = .ptr s 0 /\ T 4 = .sl (.own kg) 1 (dT []) /\ T 40 = .lit (.int .i64 0) /\ T 41 = .lit (.int .i64 0) /\ S3 = S2) 0 ⟨q0, q4, rfl, rfl, rfl⟩ ?_
     rintro n T S3 ⟨r0, r4, r40, r41, rfl⟩
     simp -implicitDefEqProofs (disch := omega) only [seval, go_sem, r0, r4, r40, r41, hs2]
     refine c_tab_Done g2.tb fun S4 k4 tb4 f4 hk4 => ?_
     obtain ⟨g4, t4⟩ := g2.setTab tb4 f4 (.inl hk4)
     simp -implicitDefEqProofs (disch := omega) only [seval, go_sem, r0, r4, r40, r41, hs2]
     exact ⟨_, .sl _ _ _, hK S4 _ g4 (t2.trans t4)⟩
end
end Go.Proofs.YtoldjfappfbfbaaGreatDoor
namespace Go.Proofs.YtoldjfappfbfbaaGreatDoor
open Go.RowKit TL
set_option maxRecDepth 8000 in
set_option maxHeartbeats 1000000 in
theorem c_Equal_T {S : TS} {g1 g2 : Tag} {s1 s2 : Nat} {a b : List Bs} {K : TV -> TS -> Prop} (hK : K (.lit (.bool (decide (a = b)))) S) (h1 : s1 = 1 ∨ a = []) (h2 : s2 = 1 ∨ b = []) (ha : a.length <= 1000000 := by omega) :
 TCall env 91 [.sl g1 s1 (dT a), .sl g2 s2 (dT b)] S K := by
 have hda := dT_len a
 have hdb := dT_len b
 refine TCall.w 26 [.tmp 4] Tryz.func91 rfl rfl rfl rfl (by kernel_rfl) rfl ?_
 simp -implicitDefEqProofs (disch := omega) only [seval, go_sem, hda, hdb]
 refine cdK_d (fun hc => ?_) (fun hc => ?_)
 · simp -implicitDefEqProofs (disch := omega) only [seval, go_sem, hda, hdb]
   rw [ne_len (by omega)] at hK
   exact hK
 · have hlen : a.length = b.length := by omega
   simp -implicitDefEqProofs (disch := omega) only [seval, go_sem, hda, hdb]
   refine loW_inv (fun n T S' => ∃ i : Nat, n + i = a.length /\ T 0 = .sl g1 s1 (dT a) /\ T 1 = .sl g2 s2 (dT b) /\ T 12 = .lit (.int .i64 (a.length : Int)) /\ T 13 = .lit (.int .i64 (i : Int)) /\ (∀ j, j < i -> a.getD j [] = b.getD j []) /\ S' = S) a.length ?_ ?_
   · exact ⟨0, rfl, rfl, rfl, rfl, rfl, (fun j h => absurd h (Nat.not_lt_zero _)), rfl⟩
   rintro n T S1 ⟨i, hi, q0, q1, q12, q13, heq, rfl⟩
   simp -implicitDefEqProofs (disch := omega) only [seval, go_sem, q0, q1, q12, q13]
   refine cdK_d (fun hc2 => ?_) (fun hc2 => ?_)
   · have hlt : i < a.length := by omega
     have z1 : s1 = 1 := h1.resolve_right fun e => by rw [e] at hlt; simp at hlt
     have z2 : s2 = 1 := h2.resolve_right fun e => by rw [e] at hlen; simp at hlen; rw [hlen] at hlt; simp at hlt
     subst z1 z2
     have hx := dT_get hlt
     have hy := dT_get (xs := b) (i := i) (by omega)
     simp -implicitDefEqProofs (disch := omega) only [seval, go_sem, q0, q1, q12, q13, hda, hdb, hx, hy]
     refine drW_at (idQ 9 0) followsN (by kernel_rfl) ?_
     simp -implicitDefEqProofs (disch := omega) only [seval, go_sem, q0, q1, q12, q13, hda, hdb, hx, hy]
     refine cdK_d (fun hc3 => ?_) (fun hc3 => ?_)
     · simp -implicitDefEqProofs (disch := omega) only [seval, go_sem, q0, q1, q12, q13, hda, hdb, hx, hy]
       rw [ne_at hc3] at hK
       exact hK
     · simp -implicitDefEqProofs (disch := omega) only [seval, go_sem, q0, q1, q12, q13, hda, hdb, hx, hy]
       refine ⟨n - 1, by omega, i + 1, by omega, q0, q1, q12, rfl, fun j hj => ?_, rfl⟩
       rcases Nat.lt_or_ge j i with h | h
       · exact heq j h
       · have : j = i := by omega
         subst this
         exact Classical.byContradiction hc3
   · have e : i = a.length := by omega
     subst e
     simp -implicitDefEqProofs (disch := omega) only [seval, go_sem, q0, q1, q12, q13]
     rw [eq_all hlen heq] at hK
     exact hK
deriving instance DecidableEq for RowM
theorem RowM.ext' {x y : RowM} : x = y ↔ x.path = y.path /\ x.name = y.name /\ x.arc = y.arc /\ x.refs = y.refs := by
 constructor
 · intro h; subst h; exact ⟨rfl, rfl, rfl, rfl⟩
 · intro ⟨h1, h2, h3, h4⟩; cases x; cases y; simp_all
section
variable {S : TS} {s : Nat} {I : StI} {L : List RowM} {jd : List D} {B : Bs -> Bs -> Bool} {roots : List Bs} {ver : BitVec 64} {tc : List (Bs × BitVec 64)}
end
end Go.Proofs.YtoldjfappfbfbaaGreatDoor
namespace Go.Proofs.YtoldjfappfbfbaaGreatDoor
open Go.RowKit TL
theorem StG.keep {S S1 : TS} {s : Nat} {I : StI} {L : List RowM} {jd : List D} {B : Bs -> Bs -> Bool} {roots : List Bs} {ver : BitVec 64} {tc : List (Bs × BitVec 64)} (h : StG S s I L jd B roots ver tc) (hk : Keep S S1) : StG S1 s I L jd B roots ver tc := h.fr hk.1 fun id hid => hk.2 id (h.flt id hid)
structure StB (M : StM) : Prop where
 rb : ∀ r ∈ M.L, RowB r
 ll : M.L.length <= 1000
 rl : M.roots.length <= 100000
 rp : ∀ p ∈ M.roots, p.length <= 100000
 rr : ∀ r ∈ M.L, r.refs.length <= 255
theorem StB.pb {M : StM} (h : StB M) : ∀ p ∈ pathsOf M.L, p.length <= 1000000 := fun p hp => by
 obtain ⟨r, hr, e⟩ := List.mem_map.1 hp
 have := (h.rb r hr).pt
 rw [e] at this; omega
section
variable {S : TS} {a b : Nat} {I1 I2 : StI} {M1 M2 : StM}
end
end Go.Proofs.YtoldjfappfbfbaaGreatDoor
namespace Go.Proofs.YtoldjfappfbfbaaGreatDoor
open Go.RowKit TL
structure BackN (S0 S : TS) (bk : Nat) (bf : Bs -> Option Nat) (B : Bs -> Bs -> Bool) : Prop where
 ok : BackOk S bk bf B
 lo : S0.n <= bk
 hi : bk < S.n
 ids : ∀ q id, bf q = some id -> S0.n <= id /\ id ≠ bk
theorem BackN.linkOld {S0 S : TS} {bk : Nat} {bf : Bs -> Option Nat} {B : Bs -> Bs -> Bool} (h : BackN S0 S bk bf B) {q p : Bs} {id : Nat} (hq : bf q = some id) {es : Ents} {clock : Nat} {ks : List Bs} (mo : MapOk kS es clock ks) (hg : ∀ p, getM kS es p = if B q p = true then some (.lit (.bool true)) else none) :
 BackN S0 (S.set id (.map (putE (kS.v p) (.lit (.bool true)) es clock) (clkE (kS.v p) es clock))) bk bf (addB B q p) := by
 refine ⟨⟨?_, fun q' id' hq' => ⟨?_, (h.ok.yes q' id' hq').2⟩, fun q' hq' p' => ?_, h.ok.inj⟩, h.lo, h.hi, h.ids⟩
 · obtain ⟨es', c, ks', a, b, d⟩ := h.ok.om
   exact ⟨es', c, ks', (st_old _ (Ne.symm (h.ids q id hq).2)).trans a, b, d⟩
 · by_cases e : q' = q
   · subst e
     rw [hq] at hq'
     cases hq'
     exact SetOk.putT mo hg (TS.set_same' _ _ _) fun p' => by simp [addB]
   · have hne : id' ≠ id := fun e2 => e (h.ok.inj _ _ id (by rw [hq', e2]) hq)
     have := (h.ok.yes q' id' hq').1.fr (S' := S.set id (.map (putE (kS.v p) (.lit (.bool true)) es clock) (clkE (kS.v p) es clock))) (st_old _ hne)
     have hf : addB B q p q' = B q' := by funext p'; simp [addB, e]
     rw [hf]; exact this
 · have hne : q' ≠ q := fun e => by rw [e, hq] at hq'; cases hq'
   simp [addB, hne, h.ok.no q' hq' p']
theorem BackN.linkNew {S0 S : TS} {bk : Nat} {bf : Bs -> Option Nat} {B : Bs -> Bs -> Bool} (h : BackN S0 S bk bf B) {q p : Bs} (hq : bf q = none) {es : Ents} {clock : Nat} {ks : List Bs} (om : S.objs bk = .map es clock) (mo : MapOk kS es clock ks) (hg : ∀ q, getM kS es q = (bf q).map TV.mp) :
 BackN S0 ((S.set bk (.map (putE (kS.v q) (.mp S.n) es clock) (clkE (kS.v q) es clock))).push (.map (putE (kS.v p) (.lit (.bool true)) [] 0) (clkE (kS.v p) [] 0))) bk (fun x => if x = q then some S.n else bf x) (addB B q p) := by
 have l2 := h.hi
 have l0 := h.lo
 have hold : ∀ id, id < S.n -> id ≠ bk -> ((S.set bk (.map (putE (kS.v q) (.mp S.n) es clock) (clkE (kS.v q) es clock))).push (.map (putE (kS.v p) (.lit (.bool true)) [] 0) (clkE (kS.v p) [] 0))).objs id = S.objs id := fun id hi hn =>
  psh_old0 (S := S.set _ _) (st_old _ hn) hi
 refine ⟨⟨⟨_, _, _, psh_old0 (S := S.set _ _) (TS.set_same' _ _ _) l2, mo.put q _, fun q' => ?_⟩, fun q' id' hq' => ?_, fun q' hq' p' => ?_, fun q1 q2 id' h1 h2 => ?_⟩, l0, Nat.lt_succ_of_lt l2, fun q' id' hq' => ?_⟩
 · rw [mo.get_put, hg]
   by_cases e : q' = q
   · rw [if_pos e, if_pos e]; rfl
   · rw [if_neg e, if_neg e]
 · by_cases e : q' = q
   · rw [if_pos e] at hq'
     cases hq'
     subst e
     refine ⟨⟨_, _, _, push_self _ _, (MapOk.nil (κ := kS)).put p _, fun p' => ?_⟩, Nat.lt_succ_self _⟩
     rw [getM_one]
     simp [addB, h.ok.no q' hq p']
   · rw [if_neg e] at hq'
     have hlt := (h.ok.yes q' id' hq').2
     refine ⟨?_, Nat.lt_succ_of_lt hlt⟩
     have hf : addB B q p q' = B q' := by funext p'; simp [addB, e]
     rw [hf]
     exact (h.ok.yes q' id' hq').1.fr (hold _ hlt (h.ids q' id' hq').2)
 · by_cases e : q' = q
   · rw [if_pos e] at hq'; cases hq'
   · rw [if_neg e] at hq'
     simp [addB, e, h.ok.no q' hq' p']
 · by_cases e1 : q1 = q
   · by_cases e2 : q2 = q
     · rw [e1, e2]
     · rw [if_pos e1] at h1
       rw [if_neg e2] at h2
       cases h1
       have := (h.ok.yes q2 _ h2).2
       omega
   · rw [if_neg e1] at h1
     by_cases e2 : q2 = q
     · rw [if_pos e2] at h2
       cases h2
       have := (h.ok.yes q1 _ h1).2
       omega
     · rw [if_neg e2] at h2
       exact h.ok.inj _ _ _ h1 h2
 · by_cases e : q' = q
   · rw [if_pos e] at hq'
     cases hq'
     exact ⟨by omega, by omega⟩
   · rw [if_neg e] at hq'
     exact h.ids q' id' hq'
theorem addB_iff (B : Bs -> Bs -> Bool) (q p q' p' : Bs) : addB B q p q' p' = true ↔ B q' p' = true ∨ (q' = q /\ p' = p) := by simp [addB]
section
variable {S : TS} {s : Nat} {I : StI} {L : List RowM} {jd : List D} {B : Bs -> Bs -> Bool} {roots : List Bs} {ver : BitVec 64} {tc : List (Bs × BitVec 64)}
set_option maxRecDepth 8000 in
set_option maxHeartbeats 1000000 in
theorem c_backward {K : TV -> TS -> Prop} (h : StG S s I L jd B roots ver tc) (hl : L.length <= 1000) (hb : ∀ p ∈ pathsOf L, p.length <= 1000000) (hr : ∀ r ∈ L, r.refs.length <= 255)
 (hK : ∀ S' bk bf B', BackN S S' bk bf B' -> (∀ q p, B' q p = true ↔ p ∈ pathsOf L /\ q ∈ refsOf L p) -> Keep S S' -> K (.mp bk) S') : TCall env 95 [.ptr s 0] S K := by
 have hrl2 := riseL_len (pathsOf L)
 have hpl : (pathsOf L).length = L.length := by simp [pathsOf]
 have hrf : ∀ p, (refsOf L p).length <= 255 := fun p => by
  unfold refsOf
  cases hp : rowAt L p with
  | none => simp
  | some r => exact hr r (rowAt_path hp).2
 refine TCall.w 38 [.tmp 2] Tryz.func95 rfl rfl rfl rfl (by kernel_rfl) rfl ?_
 simp -implicitDefEqProofs (disch := omega) only [seval, go_sem]
 refine c_Paths (h.push _) (by omega) hb ?_
 have hdl := dT_len (riseL (pathsOf L))
 have hpm : ∀ p, p ∈ riseL (pathsOf L) ↔ p ∈ pathsOf L := riseL_mem _
 simp -implicitDefEqProofs (disch := omega) only [seval, go_sem, hdl]
 generalize riseL (pathsOf L) = ps at *
 refine loW_inv (fun n T S1 => ∃ (i : Nat) (bf : Bs -> Option Nat) (B' : Bs -> Bs -> Bool), n + i = ps.length /\ T 0 = .ptr s 0 /\ T 3 = .mp S.n /\ T 10 = .sl .none 1 (dT ps) /\ T 11 = .lit (.int .i64 (ps.length : Int)) /\ T 12 = .lit (.int .i64 (i : Int)) ∧
  BackN S S1 S.n bf B' /\ (∀ q p, B' q p = true ↔ p ∈ ps.take i /\ q ∈ refsOf L p) /\ Keep S S1) ps.length ?_ ?_
 · exact ⟨0, fun _ => none, fun _ _ => false, rfl, rfl, rfl, rfl, rfl, rfl, ⟨⟨⟨[], 0, [], push_self _ _, MapOk.nil, fun q => rfl⟩, (fun q id h => by cases h), (fun _ _ _ => rfl), (fun q q' id h => by cases h)⟩, Nat.le_refl _, Nat.lt_succ_self _, (fun q id h => by cases h)⟩, fun q p => by simp, Keep.push _ _⟩
 rintro n T S1 ⟨i, bf, B', hi, q0, q3, q10, q11, q12, hB, hBi, hk⟩
 simp -implicitDefEqProofs (disch := omega) only [seval, go_sem, q0, q3, q10, q11, q12]
 refine cdK_d (fun hc => ?_) (fun hc => ?_)
 · have hlt : i < ps.length := by omega
   have hx := dT_get hlt
   have htk := take_succ_D ps (i := i) [] hlt
   generalize ps.getD i [] = p at *
   have hdr := dT_len (refsOf L p)
   have hrp := hrf p
   simp -implicitDefEqProofs (disch := omega) only [seval, go_sem, q0, q3, q10, q11, q12, hdl, hx]
   refine c_Refs (h.keep hk) ?_
   simp -implicitDefEqProofs (disch := omega) only [seval, go_sem, q0, q3, q10, q11, q12, hdl, hx, hdr]
   refine loW_inv (fun n2 T2 S2 => ∃ (j : Nat) (bf2 : Bs -> Option Nat) (B2 : Bs -> Bs -> Bool), n2 + j = (refsOf L p).length /\ T2 0 = .ptr s 0 /\ T2 3 = .mp S.n /\ T2 5 = .lit (.string (st p)) /\ T2 10 = .sl .none 1 (dT ps) /\ T2 11 = .lit (.int .i64 (ps.length : Int)) /\ T2 12 = .lit (.int .i64 (i : Int)) ∧
    T2 18 = .sl .none 1 (dT (refsOf L p)) /\ T2 19 = .lit (.int .i64 ((refsOf L p).length : Int)) /\ T2 20 = .lit (.int .i64 (j : Int)) ∧
    BackN S S2 S.n bf2 B2 /\ (∀ q p', B2 q p' = true ↔ (p' ∈ ps.take i /\ q ∈ refsOf L p') ∨ (p' = p /\ q ∈ (refsOf L p).take j)) /\ Keep S S2) (refsOf L p).length ?_ ?_
   · exact ⟨0, bf, B', rfl, q0, q3, rfl, q10, q11, q12, rfl, rfl, rfl, hB, fun q p' => by rw [hBi]; simp, hk⟩
   rintro n2 T2 S2 ⟨j, bf2, B2, hj, r0, r3, r5, r10, r11, r12, r18, r19, r20, hB2, hBi2, hk2⟩
   have hn2 := hk2.1
   obtain ⟨es, clock, ks, om, mo, hg⟩ := hB2.ok.om
   have hkeys : keysOk .string es = true := mo.ok
   have hbl := hB2.hi
   simp -implicitDefEqProofs (disch := omega) only [seval, go_sem, r0, r3, r5, r18, r19, r20]
   refine cdK_d (fun hc2 => ?_) (fun hc2 => ?_)
   · have hltj : j < (refsOf L p).length := by omega
     have hy := dT_get hltj
     have htkj := take_succ_D (refsOf L p) (i := j) [] hltj
     generalize (refsOf L p).getD j [] = q at *
     have hBn : ∀ q' p', addB B2 q p q' p' = true ↔ (p' ∈ ps.take i /\ q' ∈ refsOf L p') ∨ (p' = p /\ q' ∈ (refsOf L p).take (j + 1)) := fun q' p' => by
      rw [addB_iff, hBi2, htkj]
      simp only [List.mem_append, List.mem_singleton]
      constructor
      · rintro ((h | ⟨h1, h2⟩) | ⟨h1, h2⟩)
        · exact .inl h
        · exact .inr ⟨h1, .inl h2⟩
        · exact .inr ⟨h2, .inr h1⟩
      · rintro (h | ⟨h1, h2 | h2⟩)
        · exact .inl (.inl h)
        · exact .inl (.inr ⟨h1, h2⟩)
        · exact .inr ⟨h2, h1⟩
     cases hq : bf2 q with
     | none =>
      have hlk : lookT (.string (st q)) es (.lit (.map none)) = .lit (.map none) := by
       show lookT (kS.v q) es _ = _
       rw [look_get, hg, hq]; rfl
      have hlk2 : lookT (.string (st q)) (putE (.string (st q)) (.mp S2.n) es clock) (.lit (.map none)) = .mp S2.n := by
       show lookT (kS.v q) (putE (kS.v q) _ es clock) _ = _
       rw [look_get, mo.get_put, if_pos rfl]; rfl
      have hkeys2 : keysOk .string (putE (.string (st q)) (.mp S2.n) es clock) = true := (mo.put q (.mp S2.n)).ok
      have hk0 : keysOk .string ([] : Ents) = true := rfl
      simp -implicitDefEqProofs (disch := omega) only [seval, go_sem, r0, r3, r5, r10, r11, r12, r18, r19, r20, hdr, hy, om, hkeys, keyB_str, lkT_f, hlk, hlk2, hkeys2, hk0]
      refine ⟨n2 - 1, by omega, j + 1, _, _, by omega, r0, r3, r5, r10, r11, r12, r18, r19, rfl, hB2.linkNew hq om mo hg, hBn, (hk2.set (Nat.le_refl _) _).push' _⟩
     | some id =>
      obtain ⟨es2, clock2, ks2, om2, mo2, hg2⟩ := (hB2.ok.yes q id hq).1
      have hkeys2 : keysOk .string es2 = true := mo2.ok
      have hlk : lookT (.string (st q)) es (.lit (.map none)) = .mp id := by
       show lookT (kS.v q) es _ = _
       rw [look_get, hg, hq]; rfl
      simp -implicitDefEqProofs (disch := omega) only [seval, go_sem, r0, r3, r5, r10, r11, r12, r18, r19, r20, hdr, hy, om, hkeys, keyB_str, lkT_f, hlk, om2, hkeys2]
      refine ⟨n2 - 1, by omega, j + 1, bf2, _, by omega, r0, r3, r5, r10, r11, r12, r18, r19, rfl, hB2.linkOld hq mo2 hg2, hBn, hk2.set (hB2.ids q id hq).1 _⟩
   · have e : j = (refsOf L p).length := by omega
     subst e
     rw [List.take_length] at hBi2
     simp -implicitDefEqProofs (disch := omega) only [seval, go_sem, r0, r3, r5, r10, r11, r12, r18, r19, r20]
     refine ⟨n - 1, by omega, i + 1, bf2, B2, by omega, r0, r3, r10, r11, rfl, hB2, fun q' p' => ?_, hk2⟩
     rw [hBi2, htk]
     simp only [List.mem_append, List.mem_singleton]
     constructor
     · rintro (⟨h1, h2⟩ | ⟨h1, h2⟩)
       · exact ⟨.inl h1, h2⟩
       · exact ⟨.inr h1, by rw [h1]; exact h2⟩
     · rintro ⟨h1 | h1, h2⟩
       · exact .inl ⟨h1, h2⟩
       · exact .inr ⟨h1, by rw [← h1]; exact h2⟩
 · have e : i = ps.length := by omega
   subst e
   rw [List.take_length] at hBi
   simp -implicitDefEqProofs (disch := omega) only [seval, go_sem, q0, q3, q10, q11, q12]
   exact hK S1 S.n bf B' hB (fun q p => by rw [hBi, hpm]) hk
end
end Go.Proofs.YtoldjfappfbfbaaGreatDoor
namespace Go.Proofs.YtoldjfappfbfbaaGreatDoor
open Go.RowKit TL
structure StM.Wf (M : StM) : Prop where
 nd : (pathsOf M.L).Nodup
 fit : ∀ r ∈ M.L, fitsR r = true
 ref : ∀ r ∈ M.L, ∀ q ∈ r.refs, hasP M.L q = true
 rs : Ris M.roots
 rt : ∀ p ∈ M.roots, hasP M.L p = true
section
variable {S : TS} {s : Nat} {I : StI} {L : List RowM} {jd : List D} {B : Bs -> Bs -> Bool} {roots : List Bs} {ver : BitVec 64} {tc : List (Bs × BitVec 64)}
set_option maxRecDepth 8000 in
set_option maxHeartbeats 1000000 in
theorem c_check11 {c : Nat} {p : Bs} {K : TV -> TS -> Prop} (h : StG S s I L jd B roots ver tc) (hc : S.objs c = .cells 37 [.ptr s 0]) (hK : K (.lit (.bool (!hasP L p))) S) : TCall env 94 [.lit (.string (st p)), .ptr c 0] S K := by
 refine TCall.w 8 [.tmp 3] Tryz.func94 rfl rfl rfl rfl (by kernel_rfl) rfl ?_
 simp -implicitDefEqProofs (disch := omega) only [seval, go_sem, hc]
 refine c_Has h ?_
 simp -implicitDefEqProofs (disch := omega) only [seval, go_sem]
 exact hK
set_option maxRecDepth 8000 in
set_option maxHeartbeats 1000000 in
theorem c_there {c : Nat} {g : Tag} {sz : Nat} {l : List Bs} {K : TV -> TS -> Prop} (h : StG S s I L jd B roots ver tc) (hc : S.objs c = .cells 37 [.ptr s 0]) (hall : l.all (hasP L) = true) (hz : sz = 1 ∨ l = []) (hl : l.length <= 1000000) (hK : K (.lit (.bool true)) S) :
 TCall env 92 [.sl g sz (dT l), .ptr c 0] S K := by
 refine TCall.w 8 [.tmp 3] Tryz.func92 rfl rfl rfl rfl (by kernel_rfl) rfl ?_
 simp -implicitDefEqProofs (disch := omega) only [seval, go_sem]
 refine c_ContainsFunc_T (P := fun p => !hasP L p) (fun x _ K hK => c_check11 h hc hK) ?_ hz
 rw [any_not, hall]
 simp -implicitDefEqProofs (disch := omega) only [seval, go_sem]
 exact hK
end
section
variable {S : TS} {s : Nat} {I : StI} {M : StM}
set_option maxRecDepth 8000 in
set_option maxHeartbeats 1000000 in
theorem c_Check {K : TV -> TS -> Prop} (h : StOk S s I M) (wf : M.Wf) (b : StB M) (hK : K (.lit (.bool true)) S) : TCall env 45 [.ptr s 0] S K := by
 refine TCall.toPure (r := .lit (.bool true)) ?_ hK
 have hll := b.ll
 have hrl := b.rl
 have hpl : (pathsOf M.L).length = M.L.length := by simp [pathsOf]
 have hrl2 := riseL_len (pathsOf M.L)
 refine TCall.w 57 [.tmp 2] Tryz.func45 rfl rfl rfl rfl (by kernel_rfl) rfl ?_
 simp -implicitDefEqProofs (disch := omega) only [seval, go_sem]
 generalize hS0 : S.push _ = S0
 have hbx : S0.objs S.n = .cells 37 [.ptr s 0] := by rw [← hS0]; exact push_self _ _
 have h0 : StOk S0 s I M := by rw [← hS0]; exact StG.push h _
 have hk0 : Keep S S0 := by rw [← hS0]; exact Keep.push _ _
 have hn0 : S0.n = S.n + 1 := by rw [← hS0]; rfl
 refine c_backward h0 hll b.pb b.rr fun S1 bk bf B' hB hBi hk1 => ?_
 have g1 := StG.keep h0 hk1
 have hn1 := hk1.1
 have hbx1 : S1.objs S.n = .cells 37 [.ptr s 0] := (hk1.2 _ (by omega)).trans hbx
 simp -implicitDefEqProofs (disch := omega) only [seval, go_sem, hbx1]
 refine c_Paths g1 (by omega) b.pb ?_
 have hdl := dT_len (riseL (pathsOf M.L))
 have hpm : ∀ p, p ∈ riseL (pathsOf M.L) ↔ p ∈ pathsOf M.L := riseL_mem _
 simp -implicitDefEqProofs (disch := omega) only [seval, go_sem, hdl]
 generalize riseL (pathsOf M.L) = ps at *
 refine loW_inv (fun n T S2 => ∃ (i : Nat), n + i = ps.length /\ T 1 = .ptr S.n 0 /\ T 3 = .fn (.func 92) [] [.ptr S.n 0] /\ T 4 = .mp bk /\ T 13 = .sl .none 1 (dT ps) /\ T 14 = .lit (.int .i64 (ps.length : Int)) /\ T 15 = .lit (.int .i64 (i : Int)) /\ Keep S1 S2) ps.length ?_ ?_
 · exact ⟨0, rfl, rfl, rfl, rfl, rfl, rfl, rfl, Keep.refl _⟩
 rintro n T S2 ⟨i, hi, q1, q3, q4, q13, q14, q15, hk2⟩
 have g2 := StG.keep g1 hk2
 have hbx2 : S2.objs S.n = .cells 37 [.ptr s 0] := (hk2.2 _ (by omega)).trans hbx1
 have hn2 := hk2.1
 simp -implicitDefEqProofs (disch := omega) only [seval, go_sem, q1, q3, q4, q13, q14, q15]
 refine cdK_d (fun hc => ?_) (fun hc => ?_)
 · have hlt : i < ps.length := by omega
   have hx := dT_get hlt
   have hmem : ps.getD i [] ∈ ps := getD_mem hlt
   generalize ps.getD i [] = p at *
   have hpP := (hpm p).1 hmem
   have hh : hasP M.L p = true := (hasP_iff _ _).2 hpP
   obtain ⟨r, hpr⟩ : ∃ r, rowAt M.L p = some r := Option.isSome_iff_exists.1 hh
   obtain ⟨hrp, hrm⟩ := rowAt_path hpr
   have hro : rowO (some r) = .agg [.lit (.string (st r.path)), .lit (.string (st r.name)), .sl .none 1 (dB r.arc), .sl .none 1 (dT r.refs)] := rfl
   have hfit := wf.fit r hrm
   have hall : r.refs.all (hasP M.L) = true := List.all_eq_true.2 (wf.ref r hrm)
   have hrr := b.rr r hrm
   have hd : decide (¬ r.path = p) = false := decide_eq_false (by rw [hrp]; simp)
   obtain ⟨es, clock, ks, om, mo, hg⟩ := hB.ok.om
   have om2 : S2.objs bk = .map es clock := (hk2.2 _ hB.hi).trans om
   have hkeys : keysOk .string es = true := mo.ok
   have hrefl : ∀ l : List Bs, decide (l = l) = true := fun l => decide_eq_true rfl
   -- who refers
   have hrr1 : Ris (referrersL M.L p) := riseL_ris _
   have hrr2 : ∀ q, q ∈ referrersL M.L p ↔ backB M.L p q = true := fun q => by
    rw [referrersL, riseL_mem, backB_iff]
    constructor
    · intro h
      obtain ⟨x, hx, e⟩ := List.mem_map.1 h
      obtain ⟨hx, h2⟩ := List.mem_filter.1 hx
      exact ⟨x, hx, e, by simpa using h2⟩
    · rintro ⟨x, hx, e, h2⟩
      exact List.mem_map.2 ⟨x, List.mem_filter.2 ⟨hx, by simpa using h2⟩, e⟩
   have hrr3 : (referrersL M.L p).length <= 1000000 := by
    have h1 := riseL_len (pathsOf (M.L.filter fun r => decide (p ∈ r.refs)))
    have h2 : (pathsOf (M.L.filter fun r => decide (p ∈ r.refs))).length <= M.L.length := by simp only [pathsOf, List.length_map]; exact List.length_filter_le _ _
    unfold referrersL; omega
   have hrr4 : ∀ q ∈ referrersL M.L p, q.length <= 1000000 := fun q hq => by
    obtain ⟨x, hx, e, _⟩ := (backB_iff _ _ _).1 ((hrr2 q).1 hq)
    exact b.pb q (List.mem_map.2 ⟨x, hx, e⟩)
   have hBB : ∀ q, q ∈ referrersL M.L p ↔ B' p q = true := fun q => by
    rw [hrr2, backB_iff, hBi]
    constructor
    · rintro ⟨x, hx, e, h2⟩
      refine ⟨List.mem_map.2 ⟨x, hx, e⟩, ?_⟩
      have := rowAt_of_mem wf.nd hx
      rw [e] at this
      unfold refsOf; rw [this]; exact h2
    · rintro ⟨h1, h2⟩
      obtain ⟨x, hx, e⟩ := List.mem_map.1 h1
      have := rowAt_of_mem wf.nd hx
      rw [e] at this
      unfold refsOf at h2; rw [this] at h2
      exact ⟨x, hx, e, h2⟩
   simp -implicitDefEqProofs (disch := omega) only [seval, go_sem, q1, q3, q4, q13, q14, q15, hdl, hx, hbx2]
   refine c_row g2 ?_
   rw [hpr, hh]
   have g3 := StG.push g2 (.cells 44 [.lit (.string (st r.path)), .lit (.string (st r.name)), .sl .none 1 (dB r.arc), .sl .none 1 (dT r.refs)])
   have hbx3 := psh_old0 (o2 := .cells 44 [.lit (.string (st r.path)), .lit (.string (st r.name)), .sl .none 1 (dB r.arc), .sl .none 1 (dT r.refs)]) hbx2 (by omega)
   have om3 := psh_old0 (o2 := .cells 44 [.lit (.string (st r.path)), .lit (.string (st r.name)), .sl .none 1 (dB r.arc), .sl .none 1 (dT r.refs)]) om2 (by have := hB.hi; omega)
   simp -implicitDefEqProofs (disch := omega) only [seval, go_sem, q1, q3, q4, q13, q14, q15, hdl, hx, hro]
   refine drW_at [(0, 0), (1, 0), (2, 0), (3, 0), (4, 0), (5, 0), (6, 2), (7, 0), (8, 0), (9, 0), (10, 0), (11, 0), (12, 0), (13, 2), (14, 0), (15, 0), (16, 0), (17, 0), (18, 0), (20, 0), (21, 0), (22, 0), (19, 1), (23, 2), (24, 2), (25, 0), (26, 0)] followsN (by kernel_rfl) ?_
   simp -implicitDefEqProofs (disch := omega) only [seval, go_sem, q1, q3, q4, q13, q14, q15, hdl, hx, hro, hd]
   refine c_Fits (r := r) ?_ (b.rb r hrm)
   rw [hfit]
   simp -implicitDefEqProofs (disch := omega) only [seval, go_sem, q1, q3, q4, q13, q14, q15, hdl, hx, hro, hd]
   refine c_there g3 hbx3 hall (.inl rfl) (by omega) ?_
   cases hq : bf p with
   | none =>
    have hlk : lookT (.string (st p)) es (.lit (.map none)) = .lit (.map none) := by
     show lookT (kS.v p) es _ = _
     rw [look_get, hg, hq]; rfl
    have hnil : referrersL M.L p = [] := by
     rw [List.eq_nil_iff_forall_not_mem]
     intro q hqm
     have := (hBB q).1 hqm
     rw [hB.ok.no p hq q] at this; cases this
    simp -implicitDefEqProofs (disch := omega) only [seval, go_sem, q1, q3, q4, q13, q14, q15, hdl, hx, hro, hd, hbx2, hbx3, om2, om3, hkeys, keyB_str, lkT_f, hlk]
    refine c_Referrers g3 hrr1 hrr2 hrr3 hrr4 ?_
    simp -implicitDefEqProofs (disch := omega) only [seval, go_sem, q1, q3, q4, q13, q14, q15, hdl, hx, hro, hd]
    refine c_sorted_nil ?_
    simp -implicitDefEqProofs (disch := omega) only [seval, go_sem, q1, q3, q4, q13, q14, q15, hdl, hx, hro, hd]
    refine c_Equal_T ?_ (.inl rfl) (.inl rfl)
    rw [hnil, hrefl]
    simp -implicitDefEqProofs (disch := omega) only [seval, go_sem, q1, q3, q4, q13, q14, q15, hdl, hx, hro, hd]
    exact ⟨n - 1, by omega, i + 1, by omega, q1, q3, q4, q13, q14, rfl, hk2.push' _⟩
   | some id =>
    have hlk : lookT (.string (st p)) es (.lit (.map none)) = .mp id := by
     show lookT (kS.v p) es _ = _
     rw [look_get, hg, hq]; rfl
    obtain ⟨hs1, hs2⟩ := hB.ok.yes p id hq
    simp -implicitDefEqProofs (disch := omega) only [seval, go_sem, q1, q3, q4, q13, q14, q15, hdl, hx, hro, hd, hbx2, hbx3, om2, om3, hkeys, keyB_str, lkT_f, hlk]
    refine c_Referrers g3 hrr1 hrr2 hrr3 hrr4 ?_
    simp -implicitDefEqProofs (disch := omega) only [seval, go_sem, q1, q3, q4, q13, q14, q15, hdl, hx, hro, hd]
    refine c_sorted (l := referrersL M.L p) (hs1.fr (psh_old0 (hk2.2 id hs2) (by omega))) (by rw [TS.push_n]; omega) hrr1 hBB hrr3 hrr4 ?_
    simp -implicitDefEqProofs (disch := omega) only [seval, go_sem, q1, q3, q4, q13, q14, q15, hdl, hx, hro, hd]
    refine c_Equal_T ?_ (.inl rfl) (.inl rfl)
    rw [hrefl]
    simp -implicitDefEqProofs (disch := omega) only [seval, go_sem, q1, q3, q4, q13, q14, q15, hdl, hx, hro, hd]
    exact ⟨n - 1, by omega, i + 1, by omega, q1, q3, q4, q13, q14, rfl, hk2.push' _⟩
 · have e : i = ps.length := by omega
   subst e
   simp -implicitDefEqProofs (disch := omega) only [seval, go_sem, q1, q3, q4, q13, q14, q15, hbx2]
   refine c_Roots g2 wf.rs (by omega) (fun p hp => by have := b.rp p hp; omega) ?_
   simp -implicitDefEqProofs (disch := omega) only [seval, go_sem, q1, q3, q4, q13, q14, q15]
   refine c_there g2 hbx2 (List.all_eq_true.2 wf.rt) (.inl rfl) (by omega) ?_
   simp -implicitDefEqProofs (disch := omega) only [seval, go_sem, q1, q3, q4, q13, q14, q15]
   exact ⟨.lit _, (hk0.trans hk1).trans hk2⟩
end
end Go.Proofs.YtoldjfappfbfbaaGreatDoor
namespace Go.Proofs.YtoldjfappfbfbaaGreatDoor
open Go.RowKit TL
def BkS (S : TS) (b : Nat) (l : Int -> List Cl) (F : Nat -> Prop) : Prop := ∃ m kf es clock ks, BookOk S b l m kf es clock ks /\ F = BookFoot b m l kf
theorem BkS.flt {S : TS} {b : Nat} {l : Int -> List Cl} {F : Nat -> Prop} (h : BkS S b l F) : ∀ id, F id -> id < S.n := by
 obtain ⟨m, kf, es, clock, ks, hb, rfl⟩ := h
 rintro id (rfl | rfl | ⟨o, ho, rfl⟩)
 · exact hb.bl
 · exact hb.ml
 · exact (hb.yes o ho).2.2.1
theorem BkS.fr {S S' : TS} {b : Nat} {l : Int -> List Cl} {F : Nat -> Prop} (h : BkS S b l F) (hn : S.n <= S'.n) (ho : ∀ id, F id -> S'.objs id = S.objs id) : BkS S' b l F := by
 obtain ⟨m, kf, es, clock, ks, hb, rfl⟩ := h
 refine ⟨m, kf, es, clock, ks, ⟨(ho _ (.inl rfl)).trans hb.ob, (ho _ (.inr (.inl rfl))).trans hb.om, hb.mo, hb.bm, Nat.lt_of_lt_of_le hb.bl hn, Nat.lt_of_lt_of_le hb.ml hn, hb.no, fun o h => ?_, hb.inj⟩, rfl⟩
 obtain ⟨g1, g2, g3, g4⟩ := hb.yes o h
 exact ⟨g1, (ho _ (.inr (.inr ⟨o, h, rfl⟩))).trans g2, Nat.lt_of_lt_of_le g3 hn, g4⟩
theorem BkS.keep {S S' : TS} {b : Nat} {l : Int -> List Cl} {F : Nat -> Prop} (h : BkS S b l F) (hk : Keep S S') : BkS S' b l F := h.fr hk.1 fun id hi => hk.2 id (h.flt id hi)
theorem BkS.push {S : TS} {b : Nat} {l : Int -> List Cl} {F : Nat -> Prop} (h : BkS S b l F) (o : TObj) : BkS (S.push o) b l F := h.keep (Keep.push _ _)
theorem BkS.frm {S S' : TS} {b : Nat} {l : Int -> List Cl} {F G : Nat -> Prop} (h : BkS S b l F) (f : Frm S S' G) (hF : ∀ id, F id -> ¬ G id) : BkS S' b l F := h.fr f.n fun id hi => f.o id (h.flt id hi) (hF id hi)
theorem BookOk.drop {S : TS} {b m clock : Nat} {l : Int -> List Cl} {kf : Int -> Nat} {es : Ents} {ks : List Int} (h : BookOk S b l m kf es clock ks) (o : Int) :
 ∃ ks', BookOk (S.set m (.map (delE (kI.v o) es) clock)) b (fun i => if i = o then [] else l i) m kf (delE (kI.v o) es) clock ks' := by
 refine ⟨_, (st_old _ h.bm).trans h.ob, TS.set_same' _ _ _, h.mo.del o, h.bm, h.bl, h.ml, fun i hi => ?_, fun i hi => ?_, fun i j h1 h2 hk => ?_⟩
 · rw [h.mo.get_del]
   by_cases e : i = o
   · rw [if_pos e]
   · rw [if_neg e] at hi ⊢; exact h.no i hi
 · by_cases e : i = o
   · rw [if_pos e] at hi; exact absurd rfl hi
   · simp only [if_neg e] at hi ⊢
     obtain ⟨g1, g2, g3, g4, g5⟩ := h.yes i hi
     rw [h.mo.get_del, if_neg e]
     exact ⟨g1, (st_old _ g5).trans g2, g3, g4, g5⟩
 · have e1 : i ≠ o := fun e => by rw [if_pos e] at h1; exact h1 rfl
   have e2 : j ≠ o := fun e => by rw [if_pos e] at h2; exact h2 rfl
   rw [if_neg e1] at h1
   rw [if_neg e2] at h2
   exact h.inj i j h1 h2 hk
theorem stF_lit (s : Nat) (I : StI) (h : ∀ q, I.bf q = none) (id : Nat) : stF s I id ↔ id ∈ [s, I.tab, I.rm, I.k, I.bk, I.rt, I.sm] := ⟨fun hh => hh.resolve_right fun ⟨q, hq⟩ => (by rw [h q] at hq; cases hq), .inl⟩
theorem c_Store_new {S : TS} {K : TV -> TS -> Prop} (hK : ∀ S' s I, StOk S' s I .new -> (∀ id, stF s I id -> S.n <= id) -> Keep S S' -> K (.ptr s 0) S') : TCall env 16 [] S K := by
 refine TCall.gh ?_
 refine c_db_New ?_
 generalize hS5 : ((((((S.push (.map [] 0)).push (.cells 168 [.mp S.n, .sl .full 0 []])).push (.map [] 0)).push (.map [] 0)).push (.map [] 0)).push (.cells 114 [.ptr (S.n + 1) 0, .mp (S.n + 2), .mp (S.n + 3), .mp (S.n + 4), .lit (w64 0#64)])) = S5
 have hn5 : S5.n = S.n + 6 := by rw [← hS5]; rfl
 have o0 : S5.objs S.n = .map [] 0 := by rw [← hS5]; exact psh_old0 (psh_old0 (psh_old0 (psh_old0 (psh_old0 (push_self _ _) (by simp only [TS.push_n]; omega)) (by simp only [TS.push_n]; omega)) (by simp only [TS.push_n]; omega)) (by simp only [TS.push_n]; omega)) (by simp only [TS.push_n]; omega)
 have o1 : S5.objs (S.n + 1) = .cells 168 [.mp S.n, .sl .full 0 []] := by rw [← hS5]; exact psh_old0 (psh_old0 (psh_old0 (psh_old0 (push_self (S.push _) _) (by simp only [TS.push_n]; omega)) (by simp only [TS.push_n]; omega)) (by simp only [TS.push_n]; omega)) (by simp only [TS.push_n]; omega)
 have o2 : S5.objs (S.n + 2) = .map [] 0 := by rw [← hS5]; exact psh_old0 (psh_old0 (psh_old0 (push_self ((S.push _).push _) _) (by simp only [TS.push_n]; omega)) (by simp only [TS.push_n]; omega)) (by simp only [TS.push_n]; omega)
 have o3 : S5.objs (S.n + 3) = .map [] 0 := by rw [← hS5]; exact psh_old0 (psh_old0 (push_self (((S.push _).push _).push _) _) (by simp only [TS.push_n]; omega)) (by simp only [TS.push_n]; omega)
 have o4 : S5.objs (S.n + 4) = .map [] 0 := by rw [← hS5]; exact psh_old0 (push_self ((((S.push _).push _).push _).push _) _) (by simp only [TS.push_n]; omega)
 have o5 : S5.objs (S.n + 5) = .cells 114 [.ptr (S.n + 1) 0, .mp (S.n + 2), .mp (S.n + 3), .mp (S.n + 4), .lit (w64 0#64)] := by rw [← hS5]; exact push_self (((((S.push _).push _).push _).push _).push _) _
 have hk5 : Keep S S5 := by rw [← hS5]; exact (((((Keep.push _ _).push' _).push' _).push' _).push' _).push' _
 have hgh := Gh.bufCell 173 6 1 o1 rfl
 refine ⟨_, hgh, ?_⟩
 have hold : ∀ id o, id ≠ S.n + 1 -> id < S5.n -> S5.objs id = o -> ((S5.push (.cells 173 [])).set (S.n + 1) (.cells 168 ([TV.mp S.n, .sl .full 0 []].set 1 (.vs S5.n 0 6 0)))).objs id = o := fun id o h1 h2 h3 => (st_old _ h1).trans (psh_old0 h3 h2)
 have p0 := hold S.n _ (by omega) (by omega) o0
 have p2 := hold (S.n + 2) _ (by omega) (by omega) o2
 have p3 := hold (S.n + 3) _ (by omega) (by omega) o3
 have p4 := hold (S.n + 4) _ (by omega) (by omega) o4
 have p5 := hold (S.n + 5) _ (by omega) (by omega) o5
 refine hK _ (S.n + 5) ⟨S.n + 1, S.n, S5.n, S.n + 2, S.n + 3, S.n + 4, fun _ => none⟩ ⟨p5, ⟨TS.set_same' _ _ _, (st_old _ (by show S5.n ≠ _; omega)).trans (push_self _ _), rfl, ⟨[], 0, [], p0, MapOk.nil, fun p => rfl, List.Perm.refl _⟩, ⟨by show S.n + 1 < S5.n + 1; omega, by show S.n < S5.n + 1; omega, Nat.lt_succ_self _⟩, ⟨by show S.n + 1 ≠ S.n; omega, by show S.n + 1 ≠ S5.n; omega, by show S.n ≠ S5.n; omega⟩⟩,
  ⟨⟨[], 0, [], p2, MapOk.nil, fun q => rfl⟩, (fun q id h => by cases h), (fun q _ p => rfl), (fun q q' id h => by cases h)⟩, ⟨[], 0, [], p3, MapOk.nil, fun p => rfl⟩, ⟨[], 0, [], p4, MapOk.nil, fun p => rfl⟩,
  ⟨by show S.n + 5 < S5.n + 1; omega, by show S.n + 2 < S5.n + 1; omega, by show S.n + 3 < S5.n + 1; omega, by show S.n + 4 < S5.n + 1; omega⟩, nodup7.2 ?_, (fun q id h => by cases h)⟩ ?_ ?_
 · show StNe (S.n + 5) (S.n + 1) S.n S5.n (S.n + 2) (S.n + 3) (S.n + 4)
   exact ⟨by omega, by omega, by omega, by omega, by omega, by omega, by omega, by omega, by omega, by omega, by omega, by omega, by omega, by omega, by omega, by omega, by omega, by omega, by omega, by omega, by omega⟩
 · intro id hid
   rw [stF_lit _ _ (fun _ => rfl)] at hid
   simp only [List.mem_cons, List.not_mem_nil, or_false] at hid
   omega
 · exact (hk5.push' _).set (by omega) _
end Go.Proofs.YtoldjfappfbfbaaGreatDoor
namespace Go.Proofs.YtoldjfappfbfbaaGreatDoor
open Go.RowKit TL
def rowOne (ar : Bs) : RowM := ⟨mkP nN ar [], nN, ar, []⟩
theorem rowOne_fits (ar : Bs) : fitsR (rowOne ar) = true := by
 unfold fitsR rowOne
 rw [right_n, refs_nil]
 exact decide_eq_true rfl
theorem rowOne_B (ar : Bs) (h : ar.length <= 1000000) : RowB (rowOne ar) := ⟨by show (1:Nat) <= _; decide, h, by simp [rowOne], (fun s h => by cases h), by show (mkP nN ar []).length <= 100000; rw [mkP_len]; decide⟩
theorem put_one (ar : Bs) : putM .new [rowOne ar] = (touchM { StM.new with L := [rowOne ar], ver := 1#64 } [mkP nN ar []], 0) := by
 have h1 : putF [] [rowOne ar] [] = (0, [rowOne ar]) := by
  unfold putF
  rw [rowOne_fits, if_neg (by simp), if_neg (by simp [hasP, rowAt]), if_neg (by simp [rowOne]), if_neg (by simp)]
  rfl
 have h2 : putF StM.new.L [rowOne ar] [] = (0, [rowOne ar]) := h1
 unfold putM
 rw [h2]
 rfl
end Go.Proofs.YtoldjfappfbfbaaGreatDoor
namespace Go.Proofs.YtoldjfappfbfbaaGreatDoor
open Go.RowKit TL
structure Inv (M : StM) : Prop where
 wf : M.Wf
 rb : ∀ r ∈ M.L, RowB r
 ll : M.L.length <= 64
 rl : M.roots.length <= 16
theorem Inv.new : Inv .new := ⟨⟨List.nodup_nil, (fun r h => by cases h), (fun r h => by cases h), List.Pairwise.nil, (fun p h => by cases h)⟩, (fun r h => by cases h), Nat.zero_le _, Nat.zero_le _⟩
theorem refs255 {r : RowM} (h : fitsR r = true) : r.refs.length <= 255 := by
 unfold fitsR refsOk at h
 simp only [Bool.and_eq_true, decide_eq_true_eq] at h
 exact h.1.2.1.1
section
variable {M : StM}
theorem Inv.nd (h : Inv M) : (pathsOf M.L).Nodup := h.wf.nd
theorem Inv.pb (h : Inv M) : ∀ p ∈ pathsOf M.L, p.length <= 100000 := fun p hp => by
 obtain ⟨r, hr, rfl⟩ := List.mem_map.1 hp
 exact (h.rb r hr).pt
theorem Inv.pb6 (h : Inv M) : ∀ p ∈ pathsOf M.L, p.length <= 1000000 := fun p hp => Nat.le_trans (h.pb p hp) (by decide)
theorem Inv.rpb (h : Inv M) : ∀ p ∈ M.roots, p.length <= 100000 := fun p hp => h.pb p ((hasP_iff _ _).1 (h.wf.rt p hp))
theorem Inv.mu (h : Inv M) : muL M.L [] <= 16384 := by
 have := muL_bound (L := M.L) (by have := h.ll; omega) fun r hr => refs255 (h.wf.fit r hr)
 have := h.ll
 omega
theorem reach_len (L : List RowM) (f : List Bs) : (reachL L f).length <= L.length := by
 have := nodup_len (ris_nodup (reachL_ok L f).1) (b := pathsOf L) fun p hp => (hasP_iff L p).1 (((reachL_ok L f).2 p).1 hp).has
 simpa [pathsOf] using this
theorem Inv.reach (h : Inv M) (f : List Bs) : (reachL M.L f).length <= 64 := Nat.le_trans (reach_len _ _) h.ll
theorem putF_inv (L : List RowM) : ∀ (l fr : List RowM), (∀ r ∈ fr, fitsR r = true /\ ∀ q ∈ r.refs, hasP (L ++ fr) q = true) -> (L ++ fr).length <= 64 →
 (∀ r ∈ (putF L l fr).2, fitsR r = true /\ ∀ q ∈ r.refs, hasP (L ++ (putF L l fr).2) q = true) /\ (L ++ (putF L l fr).2).length <= 64
 | [], fr, h, hl => ⟨h, hl⟩
 | r :: l, fr, h, hl => by
  unfold putF
  split
  · exact ⟨h, hl⟩
  rename_i h1
  split
  · exact putF_inv L l fr h hl
  split
  · exact ⟨h, hl⟩
  rename_i h3
  split
  · exact ⟨h, hl⟩
  rename_i h4
  refine putF_inv L l (fr ++ [r]) (fun x hx => ?_) (by simp only [List.length_append, List.length_singleton] at h4 ⊢; omega)
  have hmono : ∀ q, hasP (L ++ fr) q = true -> hasP (L ++ (fr ++ [r])) q = true := fun q hq => by rw [← List.append_assoc, hasP_app, hq]; rfl
  rcases List.mem_append.1 hx with hx | hx
  · exact ⟨(h x hx).1, fun q hq => hmono q ((h x hx).2 q hq)⟩
  · rw [List.mem_singleton.1 hx]
    refine ⟨by simpa using h1, fun q hq => hmono q ?_⟩
    have h3' : r.refs.all (hasP (L ++ fr)) = true := by simpa using h3
    exact List.all_eq_true.1 h3' q hq
theorem Inv.put (h : Inv M) {l : List RowM} (hb : ∀ r ∈ l, RowB r) : Inv (putM M l).1 := by
 unfold putM
 split
 · exact h
 split
 · exact h
 obtain ⟨g1, g2⟩ := putF_inv M.L l [] (fun r hr => by cases hr) (by rw [List.append_nil]; exact h.ll)
 have g3 := putF_nodup M.L l [] (by rw [List.append_nil]; exact h.nd)
 have g4 := putF_sub M.L l []
 have hm : ∀ q, hasP M.L q = true -> hasP (M.L ++ (putF M.L l []).2) q = true := fun q hq => by rw [hasP_app, hq]; rfl
 refine ⟨⟨g3, fun r hr => ?_, fun r hr q hq => ?_, h.wf.rs, fun p hp => hm p (h.wf.rt p hp)⟩, fun r hr => ?_, g2, h.rl⟩
 · rcases List.mem_append.1 hr with hr | hr
   · exact h.wf.fit r hr
   · exact (g1 r hr).1
 · rcases List.mem_append.1 hr with hr | hr
   · exact hm q (h.wf.ref r hr q hq)
   · exact (g1 r hr).2 q hq
 · rcases List.mem_append.1 hr with hr | hr
   · exact h.rb r hr
   · rcases g4 r hr with hr | hr
     · cases hr
     · exact hb r hr
theorem Inv.root (h : Inv M) (p : Bs) : Inv (rootM M p).1 := by
 unfold rootM
 split
 · exact h
 rename_i h1
 split
 · exact h
 split
 · exact h
 rename_i h3
 refine ⟨⟨h.wf.nd, h.wf.fit, h.wf.ref, riseL_ris _, fun q hq => ?_⟩, h.rb, h.ll, ?_⟩
 · have hq : q ∈ riseL (M.roots ++ [p]) := hq
   rw [riseL_mem] at hq
   rcases List.mem_append.1 hq with hq | hq
   · exact h.wf.rt q hq
   · rw [List.mem_singleton.1 hq]
     have h1' : hasP M.L p = true := by simpa using h1
     exact h1'
 · show (riseL (M.roots ++ [p])).length <= 16
   have := riseL_len (M.roots ++ [p])
   simp only [List.length_append, List.length_singleton] at this
   omega
theorem Inv.unroot (h : Inv M) (p : Bs) : Inv (unrootM M p).1 := by
 unfold unrootM
 split
 · refine ⟨⟨h.wf.nd, h.wf.fit, h.wf.ref, ris_filter h.wf.rs _, fun q hq => h.wf.rt q (List.mem_filter.1 hq).1⟩, h.rb, h.ll, ?_⟩
   exact Nat.le_trans (List.length_filter_le _ _) h.rl
 · exact h
theorem hasP_filter (L : List RowM) (g : List Bs) {q : Bs} (hq : q ∉ g) : hasP (L.filter fun r => !decide (r.path ∈ g)) q = hasP L q := by
 unfold hasP
 rw [rowAt_filter_no L g hq]
theorem Inv.cut (h : Inv M) {g : List Bs} (h1 : ∀ r ∈ M.L, r.path ∉ g -> ∀ q ∈ r.refs, q ∉ g) (h2 : ∀ p ∈ M.roots, p ∉ g) : Inv (cutM M g) := by
 have hs : ∀ r, r ∈ (M.L.filter fun r => !decide (r.path ∈ g)) -> r ∈ M.L /\ r.path ∉ g := fun r hr => by
  have := List.mem_filter.1 hr
  exact ⟨this.1, by simpa using this.2⟩
 refine ⟨⟨?_, fun r hr => h.wf.fit r (hs r hr).1, fun r hr q hq => ?_, h.wf.rs, fun p hp => ?_⟩, fun r hr => h.rb r (hs r hr).1, Nat.le_trans (List.length_filter_le _ _) h.ll, h.rl⟩
 · exact h.nd.sublist ((List.filter_sublist (l := M.L)).map _)
 · show hasP (M.L.filter fun r => !decide (r.path ∈ g)) q = true
   rw [hasP_filter _ _ (h1 r (hs r hr).1 (hs r hr).2 q hq)]
   exact h.wf.ref r (hs r hr).1 q hq
 · show hasP (M.L.filter fun r => !decide (r.path ∈ g)) p = true
   rw [hasP_filter _ _ (h2 p hp)]
   exact h.wf.rt p hp
theorem Inv.delete (h : Inv M) (p : Bs) : Inv (deleteM M p).1 := by
 unfold deleteM
 split
 · exact h
 split
 · exact h
 rename_i h2
 have hn : ¬ p ∈ M.roots := fun e => h2 (.inl e)
 have hr : withoutL (referrersL M.L p) p = [] := Classical.byContradiction fun e => h2 (.inr e)
 refine h.cut (fun r hr1 hr2 q hq hqg => ?_) fun q hq hqg => ?_
 · rw [List.mem_singleton] at hqg hr2
   subst hqg
   have hm : r.path ∈ withoutL (referrersL M.L q) q := by
    unfold withoutL
    refine List.mem_filter.2 ⟨?_, by simpa using hr2⟩
    rw [referrersL, riseL_mem]
    exact List.mem_map.2 ⟨r, List.mem_filter.2 ⟨hr1, by simpa using hq⟩, rfl⟩
   rw [hr] at hm
   cases hm
 · rw [List.mem_singleton.1 hqg] at hq
   exact hn hq
theorem refsOf_mem {L : List RowM} (hnd : (pathsOf L).Nodup) {r : RowM} (hr : r ∈ L) : refsOf L r.path = r.refs := by
 unfold refsOf
 rw [rowAt_of_mem hnd hr]
theorem Inv.sweep (h : Inv M) : Inv (sweepM M).1 := by
 unfold sweepM
 split
 · exact h
 obtain ⟨_, hl⟩ := reachL_ok M.L M.roots
 have hlive : ∀ q, hasP M.L q = true -> (q ∈ (pathsOf M.L).filter (fun p => !decide (p ∈ reachL M.L M.roots)) ↔ ¬ Rch M.L M.roots q) := fun q hq => by
  rw [List.mem_filter, ← hl]
  have := (hasP_iff _ _).1 hq
  simp [this]
 have hmem : ∀ q, q ∈ (pathsOf M.L).filter (fun p => !decide (p ∈ reachL M.L M.roots)) -> ¬ Rch M.L M.roots q := fun q hq => by
  rw [← hl]
  simpa using (List.mem_filter.1 hq).2
 refine h.cut (fun r hr1 hr2 q hq hqg => ?_) fun q hq hqg => hmem q hqg (.base hq (h.wf.rt q hq))
 have hrp : hasP M.L r.path = true := (hasP_iff _ _).2 (List.mem_map.2 ⟨r, hr1, rfl⟩)
 have hrl : Rch M.L M.roots r.path := Classical.byContradiction fun e => hr2 ((hlive _ hrp).2 e)
 exact hmem q hqg (.step hrl (by rw [refsOf_mem h.nd hr1]; exact hq) (h.wf.ref r hr1 q hq))
/-! ### what a change touches -/
structure Chg (M M' : StM) (l : List Bs) : Prop where
 ver : M'.ver = M.ver + 1#64
 tc : M'.tc = M.tc ++ l.map fun p => (p, M.ver + 1#64)
 row : ∀ q, q ∉ l -> rowAt M'.L q = rowAt M.L q
end
/-! ### claims that are fresh -/
structure SureI (M0 M : StM) (n : Nat) : Prop where
 lo : M0.ver.toNat <= M.ver.toNat
 hi : M.ver.toNat <= n
 st : ∀ q, M0.ver.toNat < (stampT M.tc q).toNat ∨ (stampT M.tc q = stampT M0.tc q /\ rowAt M.L q = rowAt M0.L q)
theorem SureI.refl {M : StM} {n : Nat} (h : M.ver.toNat <= n) : SureI M M n := ⟨Nat.le_refl _, h, fun q => .inr ⟨rfl, rfl⟩⟩
theorem SureI.mono {M0 M : StM} {n m : Nat} (h : SureI M0 M n) (hm : n <= m) : SureI M0 M m := ⟨h.lo, Nat.le_trans h.hi hm, h.st⟩
theorem SureI.step {M0 M M' : StM} {n : Nat} (h : SureI M0 M n) (hn : n <= 100000) (hc : M' = M ∨ ∃ t, Chg M M' t) : SureI M0 M' (n + 1) := by
 rcases hc with rfl | ⟨t, hv, ht, hr⟩
 · exact h.mono (Nat.le_succ _)
 have h1 := h.hi
 have h2 := h.lo
 have hv' : M'.ver.toNat = M.ver.toNat + 1 := by
  rw [hv, BitVec.toNat_add]
  show (M.ver.toNat + 1) % 18446744073709551616 = _
  omega
 refine ⟨by omega, by omega, fun q => ?_⟩
 rw [ht, stampT_app]
 by_cases hq : q ∈ t
 · rw [if_pos hq, ← hv]
   exact .inl (by omega)
 · rw [if_neg hq, hr q hq]
   exact h.st q
theorem SureI.same {M0 M : StM} {n : Nat} (h : SureI M0 M n) (hw : M0.Wf) (h0 : ∀ q, (stampT M0.tc q).toNat <= M0.ver.toNat) {p : Bs} (hp : hasP M0.L p = true) (hs : ∀ q ∈ reachL M0.L [p], stampT M.tc q = stampT M0.tc q) : reachL M.L [p] = reachL M0.L [p] := by
 obtain ⟨r1, m1⟩ := reachL_ok M.L [p]
 obtain ⟨r0, m0⟩ := reachL_ok M0.L [p]
 have hrow : ∀ q ∈ reachL M0.L [p], rowAt M.L q = rowAt M0.L q := fun q hq => by
  rcases h.st q with h1 | h1
  · rw [hs q hq] at h1
    have := h0 q
    omega
  · exact h1.2
 have hp0 : Rch M0.L [p] p := .base (by simp) hp
 refine ris_ext r1 r0 fun q => ?_
 rw [m1, m0]
 constructor
 · intro hq
   induction hq with
   | base hb hh =>
    rw [List.mem_singleton.1 hb]
    exact hp0
   | @step a b ha hb hh ih =>
    have e : refsOf M.L a = refsOf M0.L a := by unfold refsOf; rw [hrow a ((m0 a).2 ih)]
    rw [e] at hb
    have ha0 := ih.has
    obtain ⟨r, hr, hrp⟩ := List.mem_map.1 ((hasP_iff _ _).1 ha0)
    have : b ∈ r.refs := by
     rw [← refsOf_mem hw.nd hr, hrp]; exact hb
    exact .step ih hb (hw.ref r hr b this)
 · intro hq
   have hh : ∀ q, Rch M0.L [p] q -> hasP M.L q = true := fun q hq => by
    have := hrow q ((m0 q).2 hq)
    unfold hasP
    rw [this]
    exact hq.has
   induction hq with
   | base hb _ =>
    rw [List.mem_singleton.1 hb]
    exact .base (by simp) (hh p hp0)
   | @step a b ha hb hp2 ih =>
    have e : refsOf M.L a = refsOf M0.L a := by unfold refsOf; rw [hrow a ((m0 a).2 ha)]
    exact .step ih (by rw [e]; exact hb) (hh b (.step ha hb hp2))
end Go.Proofs.YtoldjfappfbfbaaGreatDoor
namespace Go.Proofs.YtoldjfappfbfbaaGreatDoor
open Go.RowKit TL
def names3 : List Bs := [[UInt8.toBitVec 97], [UInt8.toBitVec 98, UInt8.toBitVec 46, UInt8.toBitVec 99], [UInt8.toBitVec 108, UInt8.toBitVec 105, UInt8.toBitVec 98, UInt8.toBitVec 45, UInt8.toBitVec 49]]
theorem names3_ok : ∀ i, i < 3 -> rightS (names3.getD i []) = true /\ (names3.getD i []).length <= 5 /\ names3.getD i [] ≠ [UInt8.toBitVec 111, UInt8.toBitVec 116, UInt8.toBitVec 104, UInt8.toBitVec 101, UInt8.toBitVec 114] := by
 have : ∀ i : Fin 3, rightS (names3.getD i.val []) = true /\ (names3.getD i.val []).length <= 5 /\ names3.getD i.val [] ≠ [UInt8.toBitVec 111, UInt8.toBitVec 116, UInt8.toBitVec 104, UInt8.toBitVec 101, UInt8.toBitVec 114] := by decide +kernel
 exact fun i h => this ⟨i, h⟩
theorem all_rise {l : List Bs} (h : l.all isP = true) : (riseL l).all isP = true := by
 rw [List.all_eq_true] at h ⊢
 intro x hx
 exact h x ((riseL_mem l x).1 hx)
theorem refsOk_riseL {l : List Bs} (h : l.all isP = true) (hl : l.length <= 255) : refsOk (riseL l) = true := by
 rw [refsOk, all_rise h, riseL_eq (riseL_ris l), decide_eq_true (by have := riseL_len l; omega)]
 simp
def refsM (made : List RowM) (b n : Nat) : List Bs := (List.range (min n made.length)).map fun i => (made.getD ((b + i) % made.length) default).path
def rowM (ars : List Bs) (made : List RowM) (a b n : Nat) : RowM :=
 ⟨mkP (names3.getD (a % 3) []) (ars.getD (b % ars.length) []) (riseL (refsM made b n)), names3.getD (a % 3) [], ars.getD (b % ars.length) [], riseL (refsM made b n)⟩
def Chn : List Bs -> List RowM -> Prop
 | _, [] => True
 | s, r :: l => fitsR r = true /\ (∀ q ∈ r.refs, q ∈ s) /\ Chn (s ++ [r.path]) l
theorem Chn.snoc : ∀ {l : List RowM} {s : List Bs} {r : RowM}, Chn s l -> fitsR r = true -> (∀ q ∈ r.refs, q ∈ s ++ pathsOf l) -> Chn s (l ++ [r])
 | [], s, r, _, h1, h2 => ⟨h1, by simpa [pathsOf] using h2, trivial⟩
 | x :: l, s, r, h, h1, h2 => ⟨h.1, h.2.1, h.2.2.snoc h1 (by simpa [pathsOf] using h2)⟩
theorem Chn.take : ∀ {l : List RowM} {s : List Bs} (k : Nat), Chn s l -> Chn s (l.take k)
 | [], s, k, h => by rw [List.take_nil]; exact h
 | x :: l, s, 0, h => trivial
 | x :: l, s, k + 1, h => ⟨h.1, h.2.1, h.2.2.take k⟩
theorem putF_chn {L : List RowM} : ∀ (l : List RowM) (s : List Bs) (fr : List RowM), Chn s l -> (∀ q ∈ s, hasP (L ++ fr) q = true) -> (L ++ fr).length + l.length <= 64 →
 (putF L l fr).1 = 0 /\ (∀ q ∈ s ++ pathsOf l, hasP (L ++ (putF L l fr).2) q = true)
 | [], s, fr, h, hs, hl => ⟨rfl, by simpa [pathsOf, putF] using hs⟩
 | r :: l, s, fr, h, hs, hl => by
  obtain ⟨h1, h2, h3⟩ := h
  have hl2 : (L ++ fr).length + l.length + 1 <= 64 := by simp only [List.length_cons] at hl; omega
  have hmem : ∀ q, q ∈ s ++ pathsOf (r :: l) -> q ∈ (s ++ [r.path]) ++ pathsOf l := fun q hq => by simpa [pathsOf] using hq
  unfold putF
  rw [if_neg (by rw [h1]; simp)]
  split
  · rename_i h4
    obtain ⟨g1, g2⟩ := putF_chn l (s ++ [r.path]) fr h3 (fun q hq => by
     rcases List.mem_append.1 hq with hq | hq
     · exact hs q hq
     · rw [List.mem_singleton.1 hq]; exact h4) (by omega)
    exact ⟨g1, fun q hq => g2 q (hmem q hq)⟩
  rename_i h4
  rw [if_neg (by rw [List.all_eq_true.2 fun q hq => hs q (h2 q hq)]; simp), if_neg (by omega)]
  obtain ⟨g1, g2⟩ := putF_chn l (s ++ [r.path]) (fr ++ [r]) h3 (fun q hq => by
   rw [← List.append_assoc, hasP_app]
   rcases List.mem_append.1 hq with hq | hq
   · rw [hs q hq]; rfl
   · rw [List.mem_singleton.1 hq, hasP_one]; simp) (by simp only [List.length_append, List.length_singleton] at hl2 ⊢; omega)
  exact ⟨g1, fun q hq => g2 q (hmem q hq)⟩
structure MadeOk (l : List RowM) : Prop where
 rb : ∀ r ∈ l, RowB r
 ip : ∀ r ∈ l, isP r.path = true
 nm : ∀ r ∈ l, r.name.length <= 5 /\ r.name ≠ [UInt8.toBitVec 111, UInt8.toBitVec 116, UInt8.toBitVec 104, UInt8.toBitVec 101, UInt8.toBitVec 114]
 ch : Chn [] l
theorem MadeOk.nil : MadeOk [] := ⟨(fun r h => by cases h), (fun r h => by cases h), (fun r h => by cases h), trivial⟩
theorem refsM_mem {made : List RowM} {b n : Nat} {q : Bs} (h : q ∈ refsM made b n) : q ∈ pathsOf made := by
 unfold refsM at h
 obtain ⟨i, hi, rfl⟩ := List.mem_map.1 h
 have hlt : 0 < made.length := by have := List.mem_range.1 hi; omega
 have hk : (b + i) % made.length < made.length := Nat.mod_lt _ hlt
 rw [List.getD_eq_getElem?_getD, List.getElem?_eq_getElem hk]
 exact List.mem_map.2 ⟨_, List.getElem_mem hk, rfl⟩
theorem refsM_len (made : List RowM) (b n : Nat) : (refsM made b n).length = min n made.length := by simp [refsM]
theorem rowM_fits {ars : List Bs} {made : List RowM} (h : ∀ r ∈ made, isP r.path = true) (a b : Nat) {n : Nat} (hn : n <= 255) : fitsR (rowM ars made a b n) = true := by
 have h1 := (names3_ok (a % 3) (Nat.mod_lt _ (by decide))).1
 have h2 : refsOk (riseL (refsM made b n)) = true := refsOk_riseL (by
  rw [List.all_eq_true]
  intro q hq
  obtain ⟨r, hr, rfl⟩ := List.mem_map.1 (refsM_mem hq)
  exact h r hr) (by rw [refsM_len]; omega)
 unfold fitsR rowM
 simp only [h1, h2, decide_true, Bool.and_true]
theorem rowM_B {ars : List Bs} {made : List RowM} (ha : ∀ x ∈ ars, x.length <= 1000000) (h : ∀ r ∈ made, RowB r) (a b : Nat) {n : Nat} (hn : n <= 255) : RowB (rowM ars made a b n) := by
 have h1 := names3_ok (a % 3) (Nat.mod_lt _ (by decide))
 refine ⟨by show (names3.getD (a % 3) []).length <= _; omega, ?_, ?_, ?_, ?_⟩
 · show (ars.getD (b % ars.length) []).length <= _
   rw [List.getD_eq_getElem?_getD]
   cases he : ars[b % ars.length]? with
   | none => exact Nat.zero_le _
   | some x => exact ha x (List.mem_of_getElem? he)
 · show (riseL (refsM made b n)).length <= _
   have := riseL_len (refsM made b n)
   rw [refsM_len] at this
   omega
 · intro q hq
   obtain ⟨r, hr, rfl⟩ := List.mem_map.1 (refsM_mem ((riseL_mem _ _).1 hq))
   exact (h r hr).pt
 · show (mkP _ _ _).length <= _
   rw [mkP_len]
   omega
theorem MadeOk.snoc {l : List RowM} (h : MadeOk l) {ars : List Bs} (ha : ∀ x ∈ ars, x.length <= 1000000) (a b : Nat) {n : Nat} (hn : n <= 255) : MadeOk (l ++ [rowM ars l a b n]) := by
 have h1 := names3_ok (a % 3) (Nat.mod_lt _ (by decide))
 refine ⟨fun r hr => ?_, fun r hr => ?_, fun r hr => ?_, h.ch.snoc (rowM_fits h.ip a b hn) fun q hq => by rw [List.nil_append]; exact refsM_mem ((riseL_mem _ _).1 hq)⟩
 all_goals rcases List.mem_append.1 hr with hr | hr
 · exact h.rb r hr
 · rw [List.mem_singleton.1 hr]; exact rowM_B ha h.rb a b hn
 · exact h.ip r hr
 · rw [List.mem_singleton.1 hr]; exact isP_mkP h1.1
 · exact h.nm r hr
 · rw [List.mem_singleton.1 hr]; exact h1.2
theorem MadeOk.take {l : List RowM} (h : MadeOk l) (k : Nat) : MadeOk (l.take k) :=
 ⟨fun r hr => h.rb r (List.mem_of_mem_take hr), fun r hr => h.ip r (List.mem_of_mem_take hr), fun r hr => h.nm r (List.mem_of_mem_take hr), h.ch.take k⟩
theorem MadeOk.onNil {l : List RowM} (h : MadeOk l) (hl : l.length <= 64) : (putF [] l []).1 = 0 /\ ∀ q ∈ pathsOf l, hasP (putF [] l []).2 q = true := by
 have := putF_chn (L := []) l [] [] h.ch (fun q hq => by cases hq) (by simpa using hl)
 simpa using this
end Go.Proofs.YtoldjfappfbfbaaGreatDoor
namespace Go.Proofs.YtoldjfappfbfbaaGreatDoor
open Go.RowKit TL
inductive Nd where
 | mk (kind : BitVec 8) (names : List Bs) (kids : List Nd) (data : Bs) (run : Bool) (stamp : BitVec 64) (target : Bs)
instance : Inhabited Nd := ⟨.mk 0#8 [] [] [] false 0#64 []⟩
abbrev wF (b : BitVec 64) : Value := .float .f64 b.toNat
mutual
def ndD : Nd -> D
 | .mk k ns ks d r s t => .agg [.lit (w8 k), .sl 1 (dT ns), .sl 7 (ndL ks), .sl 1 (dB d), .lit (.bool r), .lit (wF s), .lit (.string (st t))]
def ndL : List Nd -> List D
 | [] => []
 | n :: l => ndD n :: ndL l
end
theorem ndL_map : ∀ l : List Nd, ndL l = l.map ndD
 | [] => by simp [ndL]
 | n :: l => by rw [ndL, ndL_map l]; rfl
theorem ndL_len (l : List Nd) : (ndL l).length = l.length := by rw [ndL_map, List.length_map]
theorem ndL_app (a b : List Nd) : ndL (a ++ b) = ndL a ++ ndL b := by rw [ndL_map, ndL_map, ndL_map, List.map_append]
theorem ndL_get {l : List Nd} {i : Nat} (h : i < l.length) : (ndL l).getD i default = ndD (l.getD i default) := by
 rw [ndL_map, List.getD_eq_getElem?_getD, List.getElem?_map, List.getD_eq_getElem?_getD, List.getElem?_eq_getElem h]; rfl
def ndV (n : Nd) : TV := match n with
 | .mk k ns ks d r s t => .agg [.lit (w8 k), .sl .none 1 (dT ns), .sl .none 7 (ndL ks), .sl .none 1 (dB d), .lit (.bool r), .lit (wF s), .lit (.string (st t))]
theorem ndV_mk (k : BitVec 8) (ns : List Bs) (ks : List Nd) (d : Bs) (r : Bool) (s : BitVec 64) (t : Bs) : ndV (.mk k ns ks d r s t) = .agg [.lit (w8 k), .sl .none 1 (dT ns), .sl .none 7 (ndL ks), .sl .none 1 (dB d), .lit (.bool r), .lit (wF s), .lit (.string (st t))] := rfl
theorem ren_ndV (n : Nat) (L : List Nat) (x : Nd) : Ren n L (ndV x) (ndV x) := by
 cases x
 exact .aggF (.cons (.lit _) (.cons (.sl0 _ _ _ (.inl rfl)) (.cons (.sl0 _ _ _ (.inl rfl)) (.cons (.sl0 _ _ _ (.inl rfl)) (.cons (.lit _) (.cons (.lit _) (.cons (.lit _) .nil)))))))
def bitsF (b : BitVec 64) : BitVec 64 := if 9218868437227405312 < (b % 9223372036854775808#64).toNat then 9221120237041090561#64 else if b.toNat = 9223372036854775808 then 0#64 else b
theorem rdCells_one {c : Cx} {w : World} {a : Value} {vs : Array Value} (h : RdCells c w [.lit a] vs) : vs = #[a] := by
 have hs := h.size
 apply Array.ext
 · simpa using hs
 · intro i h1 h2
   have h3 : i < 1 := by simpa using h2
   match i, h3 with
   | 0, _ => exact (h.rd 0 _ _ rfl (Array.getElem?_eq_getElem h1)).lit_inv
theorem c_Float64bits {S : TS} {b : BitVec 64} {K : TV -> TS -> Prop} (hK : K (.lit (w64 b)) S) : TCall env 186 [.lit (wF b)] S K := by
 refine TCall.of_extern (e := Extern.MathFloatBits.float64bits) Tryz.func186 rfl rfl (by kernel_rfl) (by kernel_rfl) fun w0 c0 w vs hk hv => ?_
 rw [rdCells_one hv]
 exact ⟨_, _, rfl, .lit (w64 b), c0, S, hk, Mono.refl _ _, .lit _, hK⟩
set_option maxRecDepth 8000 in
set_option maxHeartbeats 1000000 in
theorem c_Bits {S : TS} {b : BitVec 64} {K : TV -> TS -> Prop} (hK : K (.lit (w64 (bitsF b))) S) : TCall env 159 [.lit (wF b)] S K := by
 refine TCall.w 12 [.tmp 2] Tryz.func159 rfl rfl rfl rfl (by kernel_rfl) rfl ?_
 simp -implicitDefEqProofs (disch := omega) only [seval, go_sem]
 refine c_Float64bits ?_
 simp -implicitDefEqProofs (disch := omega) only [seval, go_sem]
 unfold bitsF at hK
 refine cdK_d (fun hc => ?_) (fun hc => ?_)
 · rw [if_pos (by omega)] at hK
   simp -implicitDefEqProofs (disch := omega) only [seval, go_sem]
   exact hK
 · rw [if_neg (by omega)] at hK
   simp -implicitDefEqProofs (disch := omega) only [seval, go_sem]
   refine cdK_d (fun hd => ?_) (fun hd => ?_)
   · rw [if_pos (by omega)] at hK
     simp -implicitDefEqProofs (disch := omega) only [seval, go_sem]
     exact hK
   · rw [if_neg (by omega)] at hK
     simp -implicitDefEqProofs (disch := omega) only [seval, go_sem]
     exact hK
def wideL (b : BitVec 64) : Bs := (List.range 8).map fun i => (b >>> (56 - 8 * i)).setWidth 8
theorem wide_succ (b : BitVec 64) {i : Nat} (h : i < 8) : (wideL b).take (i + 1) = (wideL b).take i ++ [(b >>> (56 - 8 * i)).setWidth 8] := by
 unfold wideL
 rw [← List.map_take, ← List.map_take, List.take_range, List.take_range, Nat.min_eq_left (by omega), Nat.min_eq_left (by omega), List.range_succ, List.map_append]
 rfl
theorem wideL_len (b : BitVec 64) : (wideL b).length = 8 := rfl
set_option maxRecDepth 8000 in
set_option maxHeartbeats 1000000 in
theorem c_Wide {S : TS} {b : BitVec 64} {K : TV -> TS -> Prop} (hK : K (.sl .none 1 (dB (wideL b))) S) : TCall env 158 [.lit (w64 b)] S K := by
 refine TCall.toPureD (r := .sl .none 1 (dB (wideL b))) ?_ hK
 refine TCall.w 19 [.tmp 2] Tryz.func158 rfl rfl rfl rfl (by kernel_rfl) rfl ?_
 simp -implicitDefEqProofs (disch := omega) only [seval, go_sem]
 refine loW.asRow 3 1 rfl (.inl rfl) ?_
 refine loW_inv (fun n T S' => ∃ (i k : Nat), n + i = 8 /\ T 0 = .lit (w64 b) /\ T 3 = .sl (.own k) 1 (dB ((wideL b).take i)) /\ T 4 = .lit (.int .i64 (i : Int)) /\ S'.objs k = .lin /\ k < S'.n /\ S.n <= k /\ Keep S S') 8 ?_ ?_
 · exact ⟨0, S.n, rfl, rfl, rfl, rfl, push_self _ _, Nat.lt_succ_self _, Nat.le_refl _, Keep.push _ _⟩
 rintro n T S1 ⟨i, k, hi, h0, h3, h4, hk, hkl, hkn, hkp⟩
 simp -implicitDefEqProofs (disch := omega) only [seval, go_sem, h0, h3, h4]
 have htl : ((wideL b).take i).length = i := by rw [List.length_take, wideL_len]; omega
 refine cdK_d (fun hb => ?_) (fun hb => ?_)
 · simp -implicitDefEqProofs (disch := omega) only [seval, go_sem, h0, h3, h4, hk]
   refine ⟨n - 1, by omega, i + 1, S1.n + 1 - 1, by omega, h0, ?_, rfl, push_self _ _, Nat.lt_succ_self _, by have := hkp.1; omega, (hkp.set hkn _).push' _⟩
   rw [wide_succ b (by omega), dB_app]; rfl
 · have e : i = 8 := by omega
   subst e
   simp -implicitDefEqProofs (disch := omega) only [seval, go_sem, h0, h3, h4]
   exact ⟨.sl .none 1 (dB (wideL b)), .sl _ _ _, .slN _ _ _, hkp⟩
theorem quo8 (P : Program) (ty : TypeId) (x : BitVec 8) (b : Int) (h : 0 < b /\ b < 256) : tvBin P .quo ty (w8 x) (.int .u8 b) = some (w8 (x / BitVec.ofInt 8 b)) := by
 obtain ⟨n, rfl⟩ : ∃ n : Nat, b = (n : Int) := ⟨b.toNat, by omega⟩
 simp only [tvBin, tvInt]
 rw [if_neg (by simp), if_pos trivial, if_neg (by omega), BitVec.ofInt_natCast]
 have e1 : ((x.toNat : Int)).tdiv (n : Int) = ((x.toNat / n : Nat) : Int) := (Int.ofNat_tdiv _ _).symm
 have e2 : x.toNat / n < 256 := Nat.lt_of_le_of_lt (Nat.div_le_self _ _) x.isLt
 have e3 : (x / BitVec.ofNat 8 n).toNat = x.toNat / n := by rw [BitVec.toNat_udiv, BitVec.toNat_ofNat, Nat.mod_eq_of_lt (a := n) (by omega)]
 rw [e1, w8, e3]
 simp [IntKind.wrap, IntKind.bits, IntKind.signed]
 omega
attribute [go_sem] quo8
def titleS (n : BitVec 8) : Bs := [97#8 + n % 26#8, 97#8 + n / 26#8]
set_option maxRecDepth 8000 in
set_option maxHeartbeats 1000000 in
theorem c_title {S : TS} {n : BitVec 8} {K : TV -> TS -> Prop} (hK : K (.lit (.string (st (titleS n)))) S) : TCall env 160 [.lit (w8 n)] S K := by
 refine TCall.w 11 [.tmp 2] Tryz.func160 rfl rfl rfl rfl (by kernel_rfl) rfl ?_
 have h2 := unbytes_dB (titleS n)
 rw [show dB (titleS n) = [D.lit (w8 (97#8 + n % 26#8)), D.lit (w8 (97#8 + n / 26#8))] from rfl] at h2
 simp -implicitDefEqProofs (disch := omega) only [seval, go_sem, h2, strOf_dB]
 exact hK
def nameR (s : Bs) : Bool := decide (1 <= s.length) && decide (s.length <= 40) && !decide (s = [UInt8.toBitVec 46]) && !decide (s = [UInt8.toBitVec 46, UInt8.toBitVec 46]) && s.all fun c => decide (c.toNat ≠ 0) && decide (c.toNat ≠ 47)
theorem all_take_no {α : Type} {l : List α} {p : α -> Bool} {i : Nat} {d : α} (h : i < l.length) (hp : p (l.getD i d) = false) : l.all p = false := by
 rw [List.all_eq_false]
 refine ⟨l[i], List.getElem_mem h, ?_⟩
 rw [List.getD_eq_getElem?_getD, List.getElem?_eq_getElem h] at hp
 simp only [Option.getD_some] at hp
 rw [hp]; decide
theorem all_take_yes {α : Type} {l : List α} {p : α -> Bool} {i : Nat} {d : α} (h : i < l.length) (h0 : (l.take i).all p = true) (hp : p (l.getD i d) = true) : (l.take (i + 1)).all p = true := by
 rw [take_succ_D l d h, List.all_append, h0, List.all_cons, hp]; rfl
set_option maxRecDepth 8000 in
set_option maxHeartbeats 1000000 in
theorem c_nameR {S : TS} {s : Bs} {K : TV -> TS -> Prop} (hK : K (.lit (.bool (nameR s))) S) (hs : s.length <= 100000) : TCall env 185 [.lit (.string (st s))] S K := by
 refine TCall.w 36 [.tmp 2] Tryz.func185 rfl rfl rfl rfl (by kernel_rfl) rfl ?_
 by_cases h1 : s.length < 1
 · rw [show nameR s = false from by simp [nameR]; omega] at hK
   simp -implicitDefEqProofs (disch := omega) only [seval, go_sem]
   exact hK
 by_cases h2 : 40 < s.length
 · rw [show nameR s = false from by simp [nameR]; omega] at hK
   simp -implicitDefEqProofs (disch := omega) only [seval, go_sem]
   exact hK
 cases h3 : decide (s = [UInt8.toBitVec 46])
 · cases h4 : decide (s = [UInt8.toBitVec 46, UInt8.toBitVec 46])
   · have hn : nameR s = s.all fun c => decide (c.toNat ≠ 0) && decide (c.toNat ≠ 47) := by
      unfold nameR
      rw [h3, h4, decide_eq_true (by omega : 1 <= s.length), decide_eq_true (by omega : s.length <= 40)]
      rfl
     simp -implicitDefEqProofs (disch := omega) only [seval, go_sem, h3, h4]
     refine loW_inv (fun n T S' => ∃ i : Nat, n + i = s.length /\ T 0 = .lit (.string (st s)) /\ T 3 = .lit (.int .i64 (i : Int)) /\ (s.take i).all (fun c => decide (c.toNat ≠ 0) && decide (c.toNat ≠ 47)) = true /\ S' = S) s.length ?_ ?_
     · exact ⟨0, rfl, rfl, rfl, rfl, rfl⟩
     rintro n T S1 ⟨i, hi, q0, q3, hall, rfl⟩
     simp -implicitDefEqProofs (disch := omega) only [seval, go_sem, q0, q3]
     refine cdK_d (fun hc => ?_) (fun hc => ?_)
     · have hlt : i < s.length := by omega
       have hno := all_take_no (l := s) (p := fun c => decide (c.toNat ≠ 0) && decide (c.toNat ≠ 47)) (d := 0#8) hlt
       have hyes := all_take_yes (l := s) (p := fun c => decide (c.toNat ≠ 0) && decide (c.toNat ≠ 47)) (d := 0#8) hlt hall
       by_cases z0 : (s.getD i 0#8).toNat = 0
       · rw [hn, hno (by rw [z0]; rfl)] at hK
         simp -implicitDefEqProofs (disch := omega) only [seval, go_sem, q0, q3]
         exact hK
       by_cases z1 : (s.getD i 0#8).toNat = 47
       · rw [hn, hno (by rw [z1]; rfl)] at hK
         simp -implicitDefEqProofs (disch := omega) only [seval, go_sem, q0, q3]
         exact hK
       simp -implicitDefEqProofs (disch := omega) only [seval, go_sem, q0, q3]
       exact ⟨n - 1, by omega, i + 1, by omega, q0, rfl, hyes (by rw [decide_eq_true z0, decide_eq_true z1]; rfl), rfl⟩
     · have e : i = s.length := by omega
       subst e
       rw [List.take_length] at hall
       rw [hn, hall] at hK
       simp -implicitDefEqProofs (disch := omega) only [seval, go_sem, q0, q3]
       exact hK
   · rw [show nameR s = false from by simp only [nameR, h4, Bool.not_true, Bool.and_false, Bool.false_and]] at hK
     simp -implicitDefEqProofs (disch := omega) only [seval, go_sem, h3, h4]
     exact hK
 · rw [show nameR s = false from by simp only [nameR, h3, Bool.not_true, Bool.and_false, Bool.false_and]] at hK
   simp -implicitDefEqProofs (disch := omega) only [seval, go_sem, h3]
   exact hK
def NdB (B : Nat) : Nat -> Nd -> Prop
 | 0, _ => False
 | k + 1, .mk _ ns ks d _ _ t => ns.length = ks.length /\ ks.length <= 39 /\ d.length <= B /\ t.length <= B + 1 /\ (∀ s ∈ ns, s.length <= 40) /\ ∀ x ∈ ks, NdB B k x
mutual
def depN : Nd -> Nat
 | .mk _ _ ks _ _ _ _ => depL ks + 1
def depL : List Nd -> Nat
 | [] => 0
 | n :: l => max (depN n) (depL l)
end
mutual
def allN : Nd -> List Nd
 | .mk k ns ks d r s t => .mk k ns ks d r s t :: allL ks
def allL : List Nd -> List Nd
 | [] => []
 | n :: l => allN n ++ allL l
end
theorem allL_snoc (l : List Nd) (n : Nd) : allL (l ++ [n]) = allL l ++ allN n := by
 induction l with
 | nil => simp [allL]
 | cons x l ih => rw [List.cons_append, allL, ih, allL, List.append_assoc]
theorem depL_snoc (l : List Nd) (n : Nd) : depL (l ++ [n]) = max (depL l) (depN n) := by
 induction l with
 | nil => simp [depL]
 | cons x l ih => rw [List.cons_append, depL, ih, depL]; omega
theorem allL_le {B k c : Nat} (h : ∀ n, NdB B k n -> (allN n).length <= c) : ∀ l : List Nd, (∀ x ∈ l, NdB B k x) -> (allL l).length <= l.length * c
 | [], _ => by simp [allL]
 | n :: l, hl => by
  have h1 := h n (hl n (by simp))
  have h2 := allL_le h l fun x hx => hl x (List.mem_cons_of_mem _ hx)
  rw [allL, List.length_append, List.length_cons, Nat.succ_mul]
  omega
def geoN : Nat -> Nat
 | 0 => 0
 | k + 1 => 39 * geoN k + 1
theorem allN_le {B : Nat} : ∀ (k : Nat) (n : Nd), NdB B k n -> (allN n).length <= geoN k
 | 0, n, h => h.elim
 | k + 1, .mk kd ns ks d r s t, h => by
  obtain ⟨h1, h2, h3, h4, h5, h6⟩ := h
  have := allL_le (allN_le k) ks h6
  rw [allN, List.length_cons]
  have h7 : ks.length * geoN k <= 39 * geoN k := Nat.mul_le_mul_right _ h2
  rw [geoN]
  omega
theorem geoN_mono : ∀ k, geoN k <= geoN (k + 1)
 | k => by rw [geoN]; omega
theorem geoN_le {k : Nat} (h : k <= 8) : geoN k <= 1000000000000 := by
 have key : ∀ a b, geoN a <= geoN (a + b) := fun a b => by
  induction b with
  | zero => exact Nat.le_refl _
  | succ b ih => exact Nat.le_trans ih (geoN_mono _)
 have h8 := key k (8 - k)
 rw [Nat.add_sub_cancel' h] at h8
 exact Nat.le_trans h8 (by decide)
theorem depL_le {B k : Nat} (h : ∀ n, NdB B k n -> depN n <= k) : ∀ l : List Nd, (∀ x ∈ l, NdB B k x) -> depL l <= k
 | [], _ => by simp [depL]
 | n :: l, hl => by
  have h1 := h n (hl n (by simp))
  have h2 := depL_le h l fun x hx => hl x (List.mem_cons_of_mem _ hx)
  rw [depL]; omega
theorem depN_le {B : Nat} : ∀ (k : Nat) (n : Nd), NdB B k n -> depN n <= k
 | 0, n, h => h.elim
 | k + 1, .mk kd ns ks d r s t, h => by
  have := depL_le (depN_le k) ks h.2.2.2.2.2
  rw [depN]; omega
end Go.Proofs.YtoldjfappfbfbaaGreatDoor
namespace Go.Proofs.YtoldjfappfbfbaaGreatDoor
open Go.RowKit TL
theorem ndD_mk (k : BitVec 8) (ns : List Bs) (ks : List Nd) (d : Bs) (r : Bool) (s : BitVec 64) (t : Bs) : ndD (.mk k ns ks d r s t) = .agg [.lit (w8 k), .sl 1 (dT ns), .sl 7 (ndL ks), .sl 1 (dB d), .lit (.bool r), .lit (wF s), .lit (.string (st t))] := by rw [ndD]
set_option maxRecDepth 8000 in
set_option maxHeartbeats 1000000 in
theorem c_Depth {B : Nat} : ∀ (k : Nat) (n : Nd) {S : TS} {K : TV -> TS -> Prop}, NdB B k n -> k <= 100 -> K (.lit (.int .i64 (depN n : Nat))) S -> TCall env 156 [ndV n] S K
 | 0, n, S, K, h, _, _ => h.elim
 | k + 1, .mk kd ns ks d r s t, S, K, hB, hk, hK => by
  refine TCall.toPure (r := .lit (.int .i64 (depN (.mk kd ns ks d r s t) : Nat))) ?_ hK
  obtain ⟨b1, b2, b3, b4, b5, b6⟩ := hB
  have hdl := ndL_len ks
  have ih := @c_Depth B k
  rw [ndV_mk]
  refine TCall.w 25 [.tmp 2] Tryz.func156 rfl rfl rfl rfl (by kernel_rfl) rfl ?_
  simp -implicitDefEqProofs (disch := omega) only [seval, go_sem]
  generalize hS1 : S.push _ = S1
  have hbox : S1.objs S.n = .cells 163 [.lit (w8 kd), .sl .none 1 (dT ns), .sl .none 7 (ndL ks), .sl .none 1 (dB d), .lit (.bool r), .lit (wF s), .lit (.string (st t))] := by rw [← hS1]; exact push_self _ _
  have hkp : Keep S S1 := by rw [← hS1]; exact Keep.push _ _
  refine loW_inv (fun n T S' => ∃ i : Nat, n + i = ks.length /\ T 1 = .ptr S.n 0 /\ T 3 = .lit (.int .i64 (depL (ks.take i) : Nat)) /\ T 4 = .lit (.int .i64 (i : Int)) /\ S' = S1) ks.length ?_ ?_
  · exact ⟨0, rfl, rfl, rfl, rfl, rfl⟩
  rintro n T S2 ⟨i, hi, q1, q3, q4, rfl⟩
  simp -implicitDefEqProofs (disch := omega) only [seval, go_sem, q1, q3, q4, hbox, hdl]
  refine cdK_d (fun hc => ?_) (fun hc => ?_)
  · have hlt : i < ks.length := by omega
    have hx := ndL_get hlt
    have htk := take_succ_D ks (i := i) default hlt
    have hmem : ks.getD i default ∈ ks := getD_mem hlt
    generalize ks.getD i default = x at *
    have hbx := b6 x hmem
    have hdx := depN_le k x hbx
    have hd1 : depL (ks.take i) <= k := depL_le (depN_le k) _ fun y hy => b6 y (List.mem_of_mem_take hy)
    have hd2 : depL (ks.take (i + 1)) = max (depL (ks.take i)) (depN x) := by rw [htk, depL_snoc]
    cases x with
    | mk kd' ns' ks' d' r' s' t' =>
     rw [ndD_mk] at hx
     simp -implicitDefEqProofs (disch := omega) only [seval, go_sem, q1, q3, q4, hbox, hdl, hx]
     refine ih _ hbx (by omega) ?_
     simp -implicitDefEqProofs (disch := omega) only [seval, go_sem, q1, q3, q4, hbox, hdl, hx]
     refine cdK_d (fun hc2 => ?_) (fun hc2 => ?_)
     · simp -implicitDefEqProofs (disch := omega) only [seval, go_sem, q1, q3, q4, hbox, hdl, hx]
       refine ⟨n - 1, by omega, i + 1, by omega, q1, ?_, rfl, rfl⟩
       rw [hd2, Nat.max_eq_right (by omega)]; rfl
     · simp -implicitDefEqProofs (disch := omega) only [seval, go_sem, q1, q3, q4, hbox, hdl, hx]
       refine ⟨n - 1, by omega, i + 1, by omega, q1, ?_, rfl, rfl⟩
       rw [hd2, Nat.max_eq_left (by omega)]; exact q3
  · have e : i = ks.length := by omega
    subst e
    rw [List.take_length] at q3
    have hd1 : depL ks <= k := depL_le (depN_le k) _ b6
    have he : depN (.mk kd ns ks d r s t) = depL ks + 1 := by rw [depN]
    simp -implicitDefEqProofs (disch := omega) only [seval, go_sem, q1, q3, q4, hbox, hdl, he]
    exact ⟨.lit _, hkp⟩
theorem allL_append (a b : List Nd) : allL (a ++ b) = allL a ++ allL b := by
 induction a with
 | nil => simp [allL]
 | cons x l ih => rw [List.cons_append, allL, ih, allL, List.append_assoc]
set_option maxRecDepth 8000 in
set_option maxHeartbeats 1000000 in
theorem c_All {B : Nat} : ∀ (k : Nat) (n : Nd) {S : TS} {K : TV -> TS -> Prop}, NdB B k n -> (allN n).length <= 1000000000000 -> K (.sl .none 7 (ndL (allN n))) S -> TCall env 157 [ndV n] S K
 | 0, n, S, K, h, _, _ => h.elim
 | k + 1, .mk kd ns ks d r s t, S, K, hB, hk, hK => by
  refine TCall.toPureD (r := .sl .none 7 (ndL (allN (.mk kd ns ks d r s t)))) ?_ hK
  obtain ⟨b1, b2, b3, b4, b5, b6⟩ := hB
  have hdl := ndL_len ks
  have ih := @c_All B k
  have hal : allN (.mk kd ns ks d r s t) = .mk kd ns ks d r s t :: allL ks := by rw [allN]
  rw [hal, List.length_cons] at hk
  rw [ndV_mk]
  refine TCall.w 23 [.tmp 2] Tryz.func157 rfl rfl rfl rfl (by kernel_rfl) rfl ?_
  simp -implicitDefEqProofs (disch := omega) only [seval, go_sem]
  generalize hS1 : S.push _ = S1
  have hbox : S1.objs S.n = .cells 163 [.lit (w8 kd), .sl .none 1 (dT ns), .sl .none 7 (ndL ks), .sl .none 1 (dB d), .lit (.bool r), .lit (wF s), .lit (.string (st t))] := by rw [← hS1]; exact push_self _ _
  have hkp : Keep S S1 := by rw [← hS1]; exact Keep.push _ _
  have hn1 : S1.n = S.n + 1 := by rw [← hS1]; rfl
  refine loW_inv (fun n T S' => ∃ (i : Nat) (g : Tag), n + i = ks.length /\ T 1 = .ptr S.n 0 /\ T 3 = .sl g 7 (ndL (.mk kd ns ks d r s t :: allL (ks.take i))) /\ T 4 = .lit (.int .i64 (i : Int)) /\ S'.objs S.n = .cells 163 [.lit (w8 kd), .sl .none 1 (dT ns), .sl .none 7 (ndL ks), .sl .none 1 (dB d), .lit (.bool r), .lit (wF s), .lit (.string (st t))] ∧
   (g = .full ∨ ∃ j, g = .own j /\ S'.objs j = .lin /\ S.n < j /\ j < S'.n) /\ S.n < S'.n /\ Keep S S') ks.length ?_ ?_
  · refine ⟨0, .full, rfl, rfl, ?_, rfl, hbox, .inl rfl, by omega, hkp⟩
    rw [ndL, ndD_mk, List.take_zero, allL, ndL]; rfl
  rintro n T S2 ⟨i, g, hi, q1, q3, q4, hbx, hg, hn2, hkp2⟩
  simp -implicitDefEqProofs (disch := omega) only [seval, go_sem, q1, q3, q4, hbx, hdl]
  refine cdK_d (fun hc => ?_) (fun hc => ?_)
  · have hlt : i < ks.length := by omega
    have hx := ndL_get hlt
    have htk := take_succ_D ks (i := i) default hlt
    have hmem : ks.getD i default ∈ ks := getD_mem hlt
    generalize ks.getD i default = x at *
    have hbx' := b6 x hmem
    have hsn : allL (ks.take (i + 1)) = allL (ks.take i) ++ allN x := by rw [htk, allL_snoc]
    have hle : (allL (ks.take (i + 1))).length <= (allL ks).length := by
     rw [← List.take_append_drop (i + 1) ks, allL_append, List.length_append, List.take_append_drop]; omega
    rw [hsn, List.length_append] at hle
    have hdl2 := ndL_len (.mk kd ns ks d r s t :: allL (ks.take i))
    have hdl3 := ndL_len (allN x)
    rw [List.length_cons] at hdl2
    cases x with
    | mk kd' ns' ks' d' r' s' t' =>
     rw [ndD_mk] at hx
     simp -implicitDefEqProofs (disch := omega) only [seval, go_sem, q1, q3, q4, hbx, hdl, hx]
     refine ih _ hbx' (by omega) ?_
     rcases hg with rfl | ⟨j, rfl, hj, hj1, hj2⟩
     · simp -implicitDefEqProofs (disch := omega) only [seval, go_sem, q1, q3, q4, hbx, hdl, hx, hdl2, hdl3]
       refine ⟨rfl, ?_⟩
       refine ⟨n - 1, by omega, i + 1, .own S2.n, by omega, q1, ?_, rfl, psh_old0 hbx hn2, .inr ⟨S2.n, rfl, push_self _ _, hn2, Nat.lt_succ_self _⟩, by rw [TS.push_n]; omega, hkp2.push' _⟩
       rw [hsn, ndL, ndL, List.cons_append, ndL_app]; rfl
     · simp -implicitDefEqProofs (disch := omega) only [seval, go_sem, q1, q3, q4, hbx, hdl, hx, hdl2, hdl3, hj]
       refine ⟨rfl, ?_⟩
       refine ⟨n - 1, by omega, i + 1, .own S2.n, by omega, q1, ?_, rfl, psh_old0 (S := TS.set _ _ _) ((st_old _ (by omega)).trans hbx) hn2, .inr ⟨S2.n, rfl, push_self (TS.set _ _ _) _, hn2, Nat.lt_succ_self _⟩, Nat.lt_succ_of_lt hn2, (hkp2.set (by omega) _).push' _⟩
       rw [hsn, ndL, ndL, List.cons_append, ndL_app]; rfl
  · have e : i = ks.length := by omega
    subst e
    rw [List.take_length] at q3
    simp -implicitDefEqProofs (disch := omega) only [seval, go_sem, q1, q3, q4, hbx, hdl]
    refine ⟨.sl .none 7 (ndL (allN (.mk kd ns ks d r s t))), ?_, .slN _ _ _, hkp2⟩
    rw [hal]
    exact .sl _ _ _
theorem str_leq {P : Program} {ty : TypeId} {a b : Bs} : tvBin P .leq ty (.string (st a)) (.string (st b)) = some (.bool (ltS a b || decide (a = b))) := by
 simp only [tvBin, tvStr, eqS_ok]
 rw [st_list, st_list, ltS_ok]
attribute [go_sem] str_leq
def namesR (ns : List Bs) : Bool := (List.range ns.length).all fun i => nameR (ns.getD i []) && (decide (i = 0) || !(ltS (ns.getD i []) (ns.getD (i - 1) []) || decide (ns.getD i [] = ns.getD (i - 1) [])))
def nameOk (ns : List Bs) (i : Nat) : Bool := nameR (ns.getD i []) && (decide (i = 0) || !(ltS (ns.getD i []) (ns.getD (i - 1) []) || decide (ns.getD i [] = ns.getD (i - 1) [])))
theorem namesR_no {ns : List Bs} {i : Nat} (h : i < ns.length) (hn : nameOk ns i = false) : namesR ns = false := by
 unfold namesR
 rw [List.all_eq_false]
 exact ⟨i, List.mem_range.2 h, by rw [show (nameR (ns.getD i []) && (decide (i = 0) || !(ltS (ns.getD i []) (ns.getD (i - 1) []) || decide (ns.getD i [] = ns.getD (i - 1) [])))) = false from hn]; decide⟩
theorem namesR_yes {ns : List Bs} (h : ∀ i, i < ns.length -> nameOk ns i = true) : namesR ns = true := List.all_eq_true.2 fun i hi => h i (List.mem_range.1 hi)
mutual
def formN : Nd -> Bool
 | .mk k ns ks d r s t =>
  if k.toNat = 1 then !(decide (0 < d.length) || r || decide ((bitsF s).toNat ≠ 0)) && !decide (0 < t.length) && decide (ns.length = ks.length) && namesR ns && formL ks
  else if k.toNat = 2 then !decide (0 < ns.length + ks.length) && !decide (0 < t.length) && decide (d.length <= 1024)
  else if k.toNat = 3 then !decide (0 < ns.length + ks.length) && !(decide (0 < d.length) || r || decide ((bitsF s).toNat ≠ 0)) && decide (0 < t.length) && decide (t.length <= 1024)
  else false
def formL : List Nd -> Bool
 | [] => true
 | n :: l => formN n && formL l
end
theorem formL_all : ∀ l : List Nd, formL l = l.all formN
 | [] => by simp [formL]
 | n :: l => by rw [formL, formL_all l, List.all_cons]
set_option maxRecDepth 8000 in
set_option maxHeartbeats 1000000 in
theorem c_form {B : Nat} (hBB : B <= 1000000) : ∀ (k : Nat) (n : Nd) {S : TS} {K : TV -> TS -> Prop}, NdB B k n -> K (.lit (.bool (formN n))) S -> TCall env 155 [ndV n] S K
 | 0, n, S, K, h, _ => h.elim
 | k + 1, .mk kd ns ks d r s t, S, K, hB, hK => by
  refine TCall.toPure (r := .lit (.bool (formN (.mk kd ns ks d r s t)))) ?_ hK
  obtain ⟨b1, b2, b3, b4, b5, b6⟩ := hB
  have hdl := ndL_len ks
  have hdt := dT_len ns
  have hdb := dB_len d
  have ih := @c_form B hBB k
  rw [ndV_mk]
  refine TCall.w 122 [.tmp 2] Tryz.func155 rfl rfl rfl rfl (by kernel_rfl) rfl ?_
  by_cases k1 : kd.toNat = 1
  · have hf1 : ∀ r, formN (.mk kd ns ks d r s t) = (!(decide (0 < d.length) || r || decide ((bitsF s).toNat ≠ 0)) && !decide (0 < t.length) && decide (ns.length = ks.length) && namesR ns && formL ks) := fun r => by rw [formN, if_pos k1]
    by_cases hd : 0 < d.length
    · have hfile : (decide (0 < d.length) || r || decide ((bitsF s).toNat ≠ 0)) = true := by rw [decide_eq_true hd]; rfl
      simp -implicitDefEqProofs (disch := omega) only [seval, go_sem, hdl, hdt, hdb]
      rw [hf1, hfile]
      exact ⟨.lit _, Keep.push _ _⟩
    have hd0 : d.length = 0 := by omega
    cases r with
    | true =>
     have hfile : (decide (0 < d.length) || true || decide ((bitsF s).toNat ≠ 0)) = true := by simp
     simp -implicitDefEqProofs (disch := omega) only [seval, go_sem, hdl, hdt, hdb]
     rw [hf1, hfile]
     exact ⟨.lit _, Keep.push _ _⟩
    | false =>
     simp -implicitDefEqProofs (disch := omega) only [seval, go_sem, hdl, hdt, hdb]
     refine c_Bits ?_
     by_cases hb : (bitsF s).toNat = 0
     · have hfile : (decide (0 < d.length) || false || decide ((bitsF s).toNat ≠ 0)) = false := by rw [decide_eq_false hd]; simp [hb]
       simp -implicitDefEqProofs (disch := omega) only [seval, go_sem, hdl, hdt, hdb]
       by_cases hl : 0 < t.length
       · simp -implicitDefEqProofs (disch := omega) only [seval, go_sem, hdl, hdt, hdb]
         rw [hf1, hfile, decide_eq_true hl]
         exact ⟨.lit _, Keep.push _ _⟩
       simp -implicitDefEqProofs (disch := omega) only [seval, go_sem, hdl, hdt, hdb]
       have hbx : (S.push (.cells 163 [.lit (w8 kd), .sl .none 1 (dT ns), .sl .none 7 (ndL ks), .sl .none 1 (dB d), .lit (.bool false), .lit (wF s), .lit (.string (st t))])).objs S.n = .cells 163 [.lit (w8 kd), .sl .none 1 (dT ns), .sl .none 7 (ndL ks), .sl .none 1 (dB d), .lit (.bool false), .lit (wF s), .lit (.string (st t))] := push_self _ _
       have hkp : Keep S (S.push (.cells 163 [.lit (w8 kd), .sl .none 1 (dT ns), .sl .none 7 (ndL ks), .sl .none 1 (dB d), .lit (.bool false), .lit (wF s), .lit (.string (st t))])) := Keep.push _ _
       generalize S.push (.cells 163 [.lit (w8 kd), .sl .none 1 (dT ns), .sl .none 7 (ndL ks), .sl .none 1 (dB d), .lit (.bool false), .lit (wF s), .lit (.string (st t))]) = S1 at *
       have hfm : formN (.mk kd ns ks d false s t) = (namesR ns && ks.all formN) := by
        rw [hf1, hfile, decide_eq_false hl, decide_eq_true b1, formL_all]; rfl
       refine loW_inv (fun n T S' => ∃ i : Nat, n + i = ks.length /\ T 1 = .ptr S.n 0 /\ T 6 = .lit (.int .i64 (i : Int)) /\ (∀ j, j < i -> nameOk ns j = true) /\ (ks.take i).all formN = true /\ S' = S1) ks.length ?_ ?_
       · exact ⟨0, rfl, rfl, rfl, (fun j hj => absurd hj (Nat.not_lt_zero _)), rfl, rfl⟩
       rintro n T S2 ⟨i, hi, q1, q6, hna, hka, rfl⟩
       simp -implicitDefEqProofs (disch := omega) only [seval, go_sem, q1, q6, hbx, hdl, hdt]
       refine cdK_d (fun hc => ?_) (fun hc => ?_)
       · have hlt : i < ks.length := by omega
         have hltn : i < ns.length := by omega
         have hx := ndL_get hlt
         have hy := dT_get hltn
         have hno := all_take_no (l := ks) (p := formN) (d := default) hlt
         have hyes := all_take_yes (l := ks) (p := formN) (d := default) hlt hka
         have hmem : ks.getD i default ∈ ks := getD_mem hlt
         have hmn : ns.getD i [] ∈ ns := getD_mem hltn
         have hbad : nameOk ns i = false -> formN (.mk kd ns ks d false s t) = false := fun h => by rw [hfm, namesR_no hltn h]; rfl
         generalize hxe : ks.getD i default = x at *
         have hbx' := b6 x hmem
         cases x with
         | mk kd' ns' ks' d' r' s' t' =>
          rw [ndD_mk] at hx
          simp -implicitDefEqProofs (disch := omega) only [seval, go_sem, q1, q6, hbx, hdl, hdt, hx, hy]
          refine drW_at [(0, 0), (1, 0), (2, 0), (3, 0), (4, 0), (5, 2), (6, 0), (7, 0), (8, 0), (9, 0), (10, 0), (11, 0), (12, 0), (13, 0), (14, 0), (15, 0), (16, 0), (17, 0), (18, 0), (19, 0), (20, 0), (21, 0), (22, 0), (23, 0), (24, 0), (25, 0), (26, 0), (27, 0), (28, 0), (29, 0), (30, 0), (31, 2), (32, 0), (33, 0)] followsN (by kernel_rfl) ?_
          simp -implicitDefEqProofs (disch := omega) only [seval, go_sem, q1, q6, hbx, hdl, hdt, hx, hy]
          refine c_nameR (s := ns.getD i []) ?_ (by have := b5 _ hmn; omega)
          cases hnr : nameR (ns.getD i []) with
          | false =>
           simp -implicitDefEqProofs (disch := omega) only [seval, go_sem, q1, q6, hbx, hdl, hdt, hx, hy]
           rw [hbad (by rw [nameOk, hnr]; rfl)]
           exact ⟨.lit _, hkp⟩
          | true =>
           by_cases hi0 : i = 0
           · have hok : nameOk ns i = true := by rw [nameOk, hnr, decide_eq_true hi0]; rfl
             simp -implicitDefEqProofs (disch := omega) only [seval, go_sem, q1, q6, hbx, hdl, hdt, hx, hy]
             refine ih _ hbx' ?_
             cases hfx : formN (.mk kd' ns' ks' d' r' s' t') with
             | false =>
              simp -implicitDefEqProofs (disch := omega) only [seval, go_sem, q1, q6, hbx, hdl, hdt, hx, hy]
              rw [hfm, hno hfx, Bool.and_false]
              exact ⟨.lit _, hkp⟩
             | true =>
              simp -implicitDefEqProofs (disch := omega) only [seval, go_sem, q1, q6, hbx, hdl, hdt, hx, hy]
              exact ⟨n - 1, by omega, i + 1, by omega, q1, rfl, (fun j hj => by
               by_cases e : j = i
               · rw [e]; exact hok
               · exact hna j (by omega)), hyes hfx, rfl⟩
           · have hlp : i - 1 < ns.length := by omega
             have hz := dT_get hlp
             have hco : nameOk ns i = !(ltS (ns.getD i []) (ns.getD (i - 1) []) || decide (ns.getD i [] = ns.getD (i - 1) [])) := by rw [nameOk, hnr, decide_eq_false hi0]; rfl
             cases hlq : (ltS (ns.getD i []) (ns.getD (i - 1) []) || decide (ns.getD i [] = ns.getD (i - 1) [])) with
             | true =>
              simp -implicitDefEqProofs (disch := omega) only [seval, go_sem, q1, q6, hbx, hdl, hdt, hx, hy, hz, hlq]
              rw [hbad (by rw [hco, hlq]; rfl)]
              exact ⟨.lit _, hkp⟩
             | false =>
              have hok : nameOk ns i = true := by rw [hco, hlq]; rfl
              simp -implicitDefEqProofs (disch := omega) only [seval, go_sem, q1, q6, hbx, hdl, hdt, hx, hy, hz, hlq]
              refine ih _ hbx' ?_
              cases hfx : formN (.mk kd' ns' ks' d' r' s' t') with
              | false =>
               simp -implicitDefEqProofs (disch := omega) only [seval, go_sem, q1, q6, hbx, hdl, hdt, hx, hy]
               rw [hfm, hno hfx, Bool.and_false]
               exact ⟨.lit _, hkp⟩
              | true =>
               simp -implicitDefEqProofs (disch := omega) only [seval, go_sem, q1, q6, hbx, hdl, hdt, hx, hy]
               exact ⟨n - 1, by omega, i + 1, by omega, q1, rfl, (fun j hj => by
                by_cases e : j = i
                · rw [e]; exact hok
                · exact hna j (by omega)), hyes hfx, rfl⟩
       · have e : i = ks.length := by omega
         subst e
         rw [List.take_length] at hka
         simp -implicitDefEqProofs (disch := omega) only [seval, go_sem, q1, q6, hbx, hdl, hdt]
         rw [hfm, hka, namesR_yes (fun j hj => hna j (by omega))]
         exact ⟨.lit _, hkp⟩
     · have hfile : (decide (0 < d.length) || false || decide ((bitsF s).toNat ≠ 0)) = true := by rw [decide_eq_true (by omega : (bitsF s).toNat ≠ 0)]; simp
       simp -implicitDefEqProofs (disch := omega) only [seval, go_sem, hdl, hdt, hdb]
       rw [hf1, hfile]
       exact ⟨.lit _, Keep.push _ _⟩
  by_cases k2 : kd.toNat = 2
  · have hf2 : ∀ r, formN (.mk kd ns ks d r s t) = (!decide (0 < ns.length + ks.length) && !decide (0 < t.length) && decide (d.length <= 1024)) := fun r => by rw [formN, if_neg k1, if_pos k2]
    by_cases hd : 0 < d.length
    · have hfile : (decide (0 < d.length) || r || decide ((bitsF s).toNat ≠ 0)) = true := by rw [decide_eq_true hd]; rfl
      simp -implicitDefEqProofs (disch := omega) only [seval, go_sem, hdl, hdt, hdb]
      by_cases hr : 0 < ns.length + ks.length
      · simp -implicitDefEqProofs (disch := omega) only [seval, go_sem, hdl, hdt, hdb]
        rw [hf2, decide_eq_true hr]
        exact ⟨.lit _, Keep.push _ _⟩
      by_cases hl : 0 < t.length
      · simp -implicitDefEqProofs (disch := omega) only [seval, go_sem, hdl, hdt, hdb]
        rw [hf2, decide_eq_true hl, decide_eq_false hr]
        exact ⟨.lit _, Keep.push _ _⟩
      by_cases hq : d.length <= 1024
      · simp -implicitDefEqProofs (disch := omega) only [seval, go_sem, hdl, hdt, hdb]
        rw [hf2, decide_eq_false hl, decide_eq_false hr, decide_eq_true hq]
        exact ⟨.lit _, Keep.push _ _⟩
      by_cases hd2 : d.length = 0
      · exfalso; omega
      simp -implicitDefEqProofs (disch := omega) only [seval, go_sem, hdl, hdt, hdb]
      rw [hf2, decide_eq_false hl, decide_eq_false hr, decide_eq_false hq]
      exact ⟨.lit _, Keep.push _ _⟩
    have hd0 : d.length = 0 := by omega
    cases r with
    | true =>
     have hfile : (decide (0 < d.length) || true || decide ((bitsF s).toNat ≠ 0)) = true := by simp
     simp -implicitDefEqProofs (disch := omega) only [seval, go_sem, hdl, hdt, hdb]
     by_cases hr : 0 < ns.length + ks.length
     · simp -implicitDefEqProofs (disch := omega) only [seval, go_sem, hdl, hdt, hdb]
       rw [hf2, decide_eq_true hr]
       exact ⟨.lit _, Keep.push _ _⟩
     by_cases hl : 0 < t.length
     · simp -implicitDefEqProofs (disch := omega) only [seval, go_sem, hdl, hdt, hdb]
       rw [hf2, decide_eq_true hl, decide_eq_false hr]
       exact ⟨.lit _, Keep.push _ _⟩
     by_cases hq : d.length <= 1024
     · simp -implicitDefEqProofs (disch := omega) only [seval, go_sem, hdl, hdt, hdb]
       rw [hf2, decide_eq_false hl, decide_eq_false hr, decide_eq_true hq]
       exact ⟨.lit _, Keep.push _ _⟩
     exfalso; omega
    | false =>
     simp -implicitDefEqProofs (disch := omega) only [seval, go_sem, hdl, hdt, hdb]
     refine c_Bits ?_
     by_cases hb : (bitsF s).toNat = 0
     · have hfile : (decide (0 < d.length) || false || decide ((bitsF s).toNat ≠ 0)) = false := by rw [decide_eq_false hd]; simp [hb]
       simp -implicitDefEqProofs (disch := omega) only [seval, go_sem, hdl, hdt, hdb]
       by_cases hr : 0 < ns.length + ks.length
       · simp -implicitDefEqProofs (disch := omega) only [seval, go_sem, hdl, hdt, hdb]
         rw [hf2, decide_eq_true hr]
         exact ⟨.lit _, Keep.push _ _⟩
       by_cases hl : 0 < t.length
       · simp -implicitDefEqProofs (disch := omega) only [seval, go_sem, hdl, hdt, hdb]
         rw [hf2, decide_eq_true hl, decide_eq_false hr]
         exact ⟨.lit _, Keep.push _ _⟩
       by_cases hq : d.length <= 1024
       · simp -implicitDefEqProofs (disch := omega) only [seval, go_sem, hdl, hdt, hdb]
         rw [hf2, decide_eq_false hl, decide_eq_false hr, decide_eq_true hq]
         exact ⟨.lit _, Keep.push _ _⟩
       exfalso; omega
     · have hfile : (decide (0 < d.length) || false || decide ((bitsF s).toNat ≠ 0)) = true := by rw [decide_eq_true (by omega : (bitsF s).toNat ≠ 0)]; simp
       simp -implicitDefEqProofs (disch := omega) only [seval, go_sem, hdl, hdt, hdb]
       by_cases hr : 0 < ns.length + ks.length
       · simp -implicitDefEqProofs (disch := omega) only [seval, go_sem, hdl, hdt, hdb]
         rw [hf2, decide_eq_true hr]
         exact ⟨.lit _, Keep.push _ _⟩
       by_cases hl : 0 < t.length
       · simp -implicitDefEqProofs (disch := omega) only [seval, go_sem, hdl, hdt, hdb]
         rw [hf2, decide_eq_true hl, decide_eq_false hr]
         exact ⟨.lit _, Keep.push _ _⟩
       by_cases hq : d.length <= 1024
       · simp -implicitDefEqProofs (disch := omega) only [seval, go_sem, hdl, hdt, hdb]
         rw [hf2, decide_eq_false hl, decide_eq_false hr, decide_eq_true hq]
         exact ⟨.lit _, Keep.push _ _⟩
       exfalso; omega
  by_cases k3 : kd.toNat = 3
  · have hf3 : ∀ r, formN (.mk kd ns ks d r s t) = (!decide (0 < ns.length + ks.length) && !(decide (0 < d.length) || r || decide ((bitsF s).toNat ≠ 0)) && decide (0 < t.length) && decide (t.length <= 1024)) := fun r => by rw [formN, if_neg k1, if_neg k2, if_pos k3]
    by_cases hd : 0 < d.length
    · have hfile : (decide (0 < d.length) || r || decide ((bitsF s).toNat ≠ 0)) = true := by rw [decide_eq_true hd]; rfl
      simp -implicitDefEqProofs (disch := omega) only [seval, go_sem, hdl, hdt, hdb]
      by_cases hr : 0 < ns.length + ks.length
      · simp -implicitDefEqProofs (disch := omega) only [seval, go_sem, hdl, hdt, hdb]
        rw [hf3, decide_eq_true hr]
        exact ⟨.lit _, Keep.push _ _⟩
      simp -implicitDefEqProofs (disch := omega) only [seval, go_sem, hdl, hdt, hdb]
      rw [hf3, hfile, decide_eq_false hr]
      exact ⟨.lit _, Keep.push _ _⟩
    have hd0 : d.length = 0 := by omega
    cases r with
    | true =>
     have hfile : (decide (0 < d.length) || true || decide ((bitsF s).toNat ≠ 0)) = true := by simp
     simp -implicitDefEqProofs (disch := omega) only [seval, go_sem, hdl, hdt, hdb]
     by_cases hr : 0 < ns.length + ks.length
     · simp -implicitDefEqProofs (disch := omega) only [seval, go_sem, hdl, hdt, hdb]
       rw [hf3, decide_eq_true hr]
       exact ⟨.lit _, Keep.push _ _⟩
     simp -implicitDefEqProofs (disch := omega) only [seval, go_sem, hdl, hdt, hdb]
     rw [hf3, hfile, decide_eq_false hr]
     exact ⟨.lit _, Keep.push _ _⟩
    | false =>
     simp -implicitDefEqProofs (disch := omega) only [seval, go_sem, hdl, hdt, hdb]
     refine c_Bits ?_
     by_cases hb : (bitsF s).toNat = 0
     · have hfile : (decide (0 < d.length) || false || decide ((bitsF s).toNat ≠ 0)) = false := by rw [decide_eq_false hd]; simp [hb]
       simp -implicitDefEqProofs (disch := omega) only [seval, go_sem, hdl, hdt, hdb]
       by_cases hr : 0 < ns.length + ks.length
       · simp -implicitDefEqProofs (disch := omega) only [seval, go_sem, hdl, hdt, hdb]
         rw [hf3, decide_eq_true hr]
         exact ⟨.lit _, Keep.push _ _⟩
       by_cases hl : 0 < t.length
       · by_cases hq : t.length <= 1024
         · simp -implicitDefEqProofs (disch := omega) only [seval, go_sem, hdl, hdt, hdb]
           rw [hf3, hfile, decide_eq_true hl, decide_eq_false hr, decide_eq_true hq]
           exact ⟨.lit _, Keep.push _ _⟩
         simp -implicitDefEqProofs (disch := omega) only [seval, go_sem, hdl, hdt, hdb]
         rw [hf3, hfile, decide_eq_true hl, decide_eq_false hr, decide_eq_false hq]
         exact ⟨.lit _, Keep.push _ _⟩
       simp -implicitDefEqProofs (disch := omega) only [seval, go_sem, hdl, hdt, hdb]
       rw [hf3, hfile, decide_eq_false hl, decide_eq_false hr]
       exact ⟨.lit _, Keep.push _ _⟩
     · have hfile : (decide (0 < d.length) || false || decide ((bitsF s).toNat ≠ 0)) = true := by rw [decide_eq_true (by omega : (bitsF s).toNat ≠ 0)]; simp
       simp -implicitDefEqProofs (disch := omega) only [seval, go_sem, hdl, hdt, hdb]
       by_cases hr : 0 < ns.length + ks.length
       · simp -implicitDefEqProofs (disch := omega) only [seval, go_sem, hdl, hdt, hdb]
         rw [hf3, decide_eq_true hr]
         exact ⟨.lit _, Keep.push _ _⟩
       simp -implicitDefEqProofs (disch := omega) only [seval, go_sem, hdl, hdt, hdb]
       rw [hf3, hfile, decide_eq_false hr]
       exact ⟨.lit _, Keep.push _ _⟩
  have hf4 : ∀ r, formN (.mk kd ns ks d r s t) = false := fun r => by rw [formN, if_neg k1, if_neg k2, if_neg k3]
  by_cases hd : 0 < d.length
  · have hfile : (decide (0 < d.length) || r || decide ((bitsF s).toNat ≠ 0)) = true := by rw [decide_eq_true hd]; rfl
    simp -implicitDefEqProofs (disch := omega) only [seval, go_sem, hdl, hdt, hdb]
    rw [hf4]
    exact ⟨.lit _, Keep.push _ _⟩
  have hd0 : d.length = 0 := by omega
  cases r with
  | true =>
   have hfile : (decide (0 < d.length) || true || decide ((bitsF s).toNat ≠ 0)) = true := by simp
   simp -implicitDefEqProofs (disch := omega) only [seval, go_sem, hdl, hdt, hdb]
   rw [hf4]
   exact ⟨.lit _, Keep.push _ _⟩
  | false =>
   simp -implicitDefEqProofs (disch := omega) only [seval, go_sem, hdl, hdt, hdb]
   refine c_Bits ?_
   by_cases hb : (bitsF s).toNat = 0
   · have hfile : (decide (0 < d.length) || false || decide ((bitsF s).toNat ≠ 0)) = false := by rw [decide_eq_false hd]; simp [hb]
     simp -implicitDefEqProofs (disch := omega) only [seval, go_sem, hdl, hdt, hdb]
     rw [hf4]
     exact ⟨.lit _, Keep.push _ _⟩
   · have hfile : (decide (0 < d.length) || false || decide ((bitsF s).toNat ≠ 0)) = true := by rw [decide_eq_true (by omega : (bitsF s).toNat ≠ 0)]; simp
     simp -implicitDefEqProofs (disch := omega) only [seval, go_sem, hdl, hdt, hdb]
     rw [hf4]
     exact ⟨.lit _, Keep.push _ _⟩
-- END form
end Go.Proofs.YtoldjfappfbfbaaGreatDoor
namespace Go.Proofs.YtoldjfappfbfbaaGreatDoor
open Go.RowKit TL
def rightN (n : Nd) : Bool := formN n && decide (depN n <= 8) && decide ((allN n).length <= 64)
set_option maxRecDepth 8000 in
set_option maxHeartbeats 1000000 in
theorem c_RightN {B k : Nat} {n : Nd} {S : TS} {K : TV -> TS -> Prop} (h : NdB B k n) (hB : B <= 1000000) (hk : k <= 8) (hK : K (.lit (.bool (rightN n))) S) : TCall env 130 [ndV n] S K := by
 refine TCall.toPure (r := .lit (.bool (rightN n))) ?_ hK
 have hal : (allN n).length <= 1000000000000 := Nat.le_trans (allN_le k n h) (geoN_le hk)
 have hdp := depN_le k n h
 have hdl := ndL_len (allN n)
 cases n with
 | mk kd ns ks d r s t =>
  have hff := @c_form B hB k (.mk kd ns ks d r s t)
  have hdd := @c_Depth B k (.mk kd ns ks d r s t)
  have haa := @c_All B k (.mk kd ns ks d r s t)
  rw [ndV_mk] at *
  refine TCall.w 16 [.tmp 2] Tryz.func130 rfl rfl rfl rfl (by kernel_rfl) rfl ?_
  simp -implicitDefEqProofs (disch := omega) only [seval, go_sem]
  generalize hS1 : S.push _ = S1
  have hbox : S1.objs S.n = .cells 163 [.lit (w8 kd), .sl .none 1 (dT ns), .sl .none 7 (ndL ks), .sl .none 1 (dB d), .lit (.bool r), .lit (wF s), .lit (.string (st t))] := by rw [← hS1]; exact push_self _ _
  have hkp : Keep S S1 := by rw [← hS1]; exact Keep.push _ _
  refine hff h ?_
  unfold rightN
  cases formN (.mk kd ns ks d r s t) with
  | false =>
   simp -implicitDefEqProofs (disch := omega) only [seval, go_sem, hbox]
   exact ⟨.lit _, hkp⟩
  | true =>
   simp -implicitDefEqProofs (disch := omega) only [seval, go_sem, hbox]
   refine hdd h (by omega) ?_
   have h8 : depN (.mk kd ns ks d r s t) <= 8 := by omega
   simp -implicitDefEqProofs (disch := omega) only [seval, go_sem, hbox]
   refine haa h hal ?_
   by_cases h64 : (allN (.mk kd ns ks d r s t)).length <= 64
   · rw [decide_eq_true h64]
     simp -implicitDefEqProofs (disch := omega) only [seval, go_sem, hbox, hdl]
     exact ⟨.lit _, hkp⟩
   · rw [decide_eq_false h64]
     simp -implicitDefEqProofs (disch := omega) only [seval, go_sem, hbox, hdl]
     exact ⟨.lit _, hkp⟩
mutual
def layN : Nd -> Bs
 | .mk k ns ks d r s t => k :: (if k.toNat = 1 then BitVec.ofNat 8 ns.length :: layL ns ks else if k.toNat = 2 then (if r then 1#8 else 0#8) :: (wideL (bitsF s) ++ text2 d) else if k.toNat = 3 then text2 t else [])
def layL : List Bs -> List Nd -> Bs
 | _, [] => []
 | ns, n :: l => text2 (ns.headD []) ++ layN n ++ layL ns.tail l
end
theorem layL_snoc : ∀ (ns : List Bs) (l : List Nd) (n : Nd), layL ns (l ++ [n]) = layL ns l ++ (text2 (ns.getD l.length []) ++ layN n)
 | ns, [], n => by cases ns <;> simp [layL]
 | ns, x :: l, n => by
  rw [List.cons_append, layL, layL_snoc, layL]
  cases ns <;> simp
theorem layL_len {B k : Nat} (h : ∀ n, NdB B k n -> formN n = true -> (layN n).length + 42 <= 1100 * (allN n).length) : ∀ (ns : List Bs) (l : List Nd), (∀ s ∈ ns, s.length <= 40) -> (∀ x ∈ l, NdB B k x) -> l.all formN = true -> (layL ns l).length <= 1100 * (allL l).length
 | _, [], _, _, _ => by simp [layL]
 | ns, n :: l, hn, hl, hf => by
  rw [List.all_cons, Bool.and_eq_true] at hf
  have h1 := h n (hl n (by simp)) hf.1
  have h2 := layL_len h ns.tail l (fun s hs => hn s (List.mem_of_mem_tail hs)) (fun x hx => hl x (List.mem_cons_of_mem _ hx)) hf.2
  have h3 : (ns.headD []).length <= 40 := by
   cases ns with
   | nil => simp
   | cons a b => exact hn a (by simp)
  rw [layL, allL, List.length_append, List.length_append, List.length_append, text2_len]
  omega
theorem layN_len {B : Nat} : ∀ (k : Nat) (n : Nd), NdB B k n -> formN n = true -> (layN n).length + 42 <= 1100 * (allN n).length
 | 0, n, h, _ => h.elim
 | k + 1, .mk kd ns ks d r s t, h, hf => by
  obtain ⟨b1, b2, b3, b4, b5, b6⟩ := h
  rw [formN] at hf
  rw [layN, allN, List.length_cons, List.length_cons]
  by_cases k1 : kd.toNat = 1
  · rw [if_pos k1] at hf ⊢
    rw [Bool.and_eq_true, formL_all] at hf
    have := layL_len (layN_len k) ns ks b5 b6 hf.2
    rw [List.length_cons]; omega
  rw [if_neg k1] at hf ⊢
  by_cases k2 : kd.toNat = 2
  · rw [if_pos k2] at hf ⊢
    rw [Bool.and_eq_true, decide_eq_true_eq] at hf
    rw [List.length_cons, List.length_append, wideL_len, text2_len]; omega
  rw [if_neg k2] at hf ⊢
  by_cases k3 : kd.toNat = 3
  · rw [if_pos k3] at hf ⊢
    rw [Bool.and_eq_true, decide_eq_true_eq] at hf
    rw [text2_len]; omega
  rw [if_neg k3, List.length_nil]; omega
theorem layN_1 {k : BitVec 8} {ns : List Bs} {ks : List Nd} {d : Bs} {r : Bool} {s : BitVec 64} {t : Bs} (h : k.toNat = 1) : layN (.mk k ns ks d r s t) = k :: BitVec.ofNat 8 ns.length :: layL ns ks := by rw [layN, if_pos h]
theorem layN_2 {k : BitVec 8} {ns : List Bs} {ks : List Nd} {d : Bs} {r : Bool} {s : BitVec 64} {t : Bs} (h : k.toNat = 2) : layN (.mk k ns ks d r s t) = k :: (if r then 1#8 else 0#8) :: (wideL (bitsF s) ++ text2 d) := by rw [layN, if_neg (by omega), if_pos h]
theorem layN_3 {k : BitVec 8} {ns : List Bs} {ks : List Nd} {d : Bs} {r : Bool} {s : BitVec 64} {t : Bs} (h : k.toNat = 3) : layN (.mk k ns ks d r s t) = k :: text2 t := by rw [layN, if_neg (by omega), if_neg (by omega), if_pos h]
theorem layN_0 {k : BitVec 8} {ns : List Bs} {ks : List Nd} {d : Bs} {r : Bool} {s : BitVec 64} {t : Bs} (h1 : k.toNat ≠ 1) (h2 : k.toNat ≠ 2) (h3 : k.toNat ≠ 3) : layN (.mk k ns ks d r s t) = [k] := by rw [layN, if_neg h1, if_neg h2, if_neg h3]
set_option maxRecDepth 8000 in
set_option maxHeartbeats 1000000 in
theorem c_lay {B : Nat} : ∀ (k : Nat) (n : Nd) {S : TS} {K : TV -> TS -> Prop}, NdB B k n -> formN n = true -> (allN n).length <= 64 -> K (.sl .none 1 (dB (layN n))) S -> TCall env 132 [ndV n] S K
 | 0, n, S, K, h, _, _, _ => h.elim
 | k + 1, .mk kd ns ks d r s t, S, K, hB, hf, h64, hK => by
  refine TCall.toPureD (r := .sl .none 1 (dB (layN (.mk kd ns ks d r s t)))) ?_ hK
  have hlen := layN_len (k + 1) _ hB hf
  obtain ⟨b1, b2, b3, b4, b5, b6⟩ := hB
  have hdl := ndL_len ks
  have hdt := dT_len ns
  have hdb := dB_len d
  have ih := @c_lay B k
  rw [ndV_mk]
  refine TCall.w 72 [.tmp 2] Tryz.func132 rfl rfl rfl rfl (by kernel_rfl) rfl ?_
  by_cases k1 : kd.toNat = 1
  · rw [layN_1 k1] at hlen ⊢
    rw [formN, if_pos k1, Bool.and_eq_true, formL_all] at hf
    have hfk := hf.2
    rw [List.length_cons, List.length_cons] at hlen
    simp -implicitDefEqProofs (disch := omega) only [seval, go_sem, hdl, hdt, hdb]
    have hbx : ((S.push (.cells 163 [.lit (w8 kd), .sl .none 1 (dT ns), .sl .none 7 (ndL ks), .sl .none 1 (dB d), .lit (.bool r), .lit (wF s), .lit (.string (st t))])).push .lin).objs S.n = .cells 163 [.lit (w8 kd), .sl .none 1 (dT ns), .sl .none 7 (ndL ks), .sl .none 1 (dB d), .lit (.bool r), .lit (wF s), .lit (.string (st t))] := psh_old0 (push_self _ _) (Nat.lt_succ_self _)
    have hbl : ((S.push (.cells 163 [.lit (w8 kd), .sl .none 1 (dT ns), .sl .none 7 (ndL ks), .sl .none 1 (dB d), .lit (.bool r), .lit (wF s), .lit (.string (st t))])).push .lin).objs (S.n + 1) = .lin := push_self (S.push _) _
    have hkp : Keep S ((S.push (.cells 163 [.lit (w8 kd), .sl .none 1 (dT ns), .sl .none 7 (ndL ks), .sl .none 1 (dB d), .lit (.bool r), .lit (wF s), .lit (.string (st t))])).push .lin) := (Keep.push _ _).push' _
    have hn1 : ((S.push (.cells 163 [.lit (w8 kd), .sl .none 1 (dT ns), .sl .none 7 (ndL ks), .sl .none 1 (dB d), .lit (.bool r), .lit (wF s), .lit (.string (st t))])).push .lin).n = S.n + 2 := rfl
    generalize (S.push (.cells 163 [.lit (w8 kd), .sl .none 1 (dT ns), .sl .none 7 (ndL ks), .sl .none 1 (dB d), .lit (.bool r), .lit (wF s), .lit (.string (st t))])).push .lin = S1 at *
    refine loW_inv (fun n T S' => ∃ (i j : Nat), n + i = ks.length /\ T 1 = .ptr S.n 0 /\ T 3 = .sl (.own j) 1 (dB (kd :: BitVec.ofNat 8 ns.length :: layL ns (ks.take i))) /\ T 4 = .lit (.int .i64 (i : Int)) /\ S'.objs S.n = .cells 163 [.lit (w8 kd), .sl .none 1 (dT ns), .sl .none 7 (ndL ks), .sl .none 1 (dB d), .lit (.bool r), .lit (wF s), .lit (.string (st t))] ∧
     S'.objs j = .lin /\ S.n < j /\ j < S'.n /\ Keep S S') ks.length ?_ ?_
    · refine ⟨0, S.n + 1, rfl, rfl, ?_, rfl, hbx, hbl, by omega, by omega, hkp⟩
      rw [List.take_zero, layL]; rfl
    rintro n T S2 ⟨i, j, hi, q1, q3, q4, hb2, hj, hj1, hj2, hk2⟩
    simp -implicitDefEqProofs (disch := omega) only [seval, go_sem, q1, q3, q4, hb2, hdt]
    refine cdK_d (fun hc => ?_) (fun hc => ?_)
    · have hlt : i < ks.length := by omega
      have hltn : i < ns.length := by omega
      have hx := ndL_get hlt
      have hy := dT_get hltn
      have htk := take_succ_D ks (i := i) default hlt
      have hmem : ks.getD i default ∈ ks := getD_mem hlt
      have hmn : ns.getD i [] ∈ ns := getD_mem hltn
      have h40 := b5 _ hmn
      have hff : formN (ks.getD i default) = true := List.all_eq_true.1 hfk _ hmem
      generalize ks.getD i default = x at *
      have hbx' := b6 x hmem
      have hsn : layL ns (ks.take (i + 1)) = layL ns (ks.take i) ++ (text2 (ns.getD i []) ++ layN x) := by
       rw [htk, layL_snoc, List.length_take, Nat.min_eq_left (by omega)]
      have hle : (layL ns (ks.take (i + 1))).length <= 1100 * (allL ks).length := by
       refine Nat.le_trans (layL_len (layN_len k) ns (ks.take (i + 1)) b5 (fun y hy => b6 y (List.mem_of_mem_take hy)) (List.all_eq_true.2 fun y hy => List.all_eq_true.1 hfk y (List.mem_of_mem_take hy))) (Nat.mul_le_mul_left _ ?_)
       rw [← List.take_append_drop (i + 1) ks, allL_append, List.length_append, List.take_append_drop]; omega
      have hal : allN (.mk kd ns ks d r s t) = .mk kd ns ks d r s t :: allL ks := by rw [allN]
      rw [hal, List.length_cons] at h64
      rw [hsn, List.length_append, List.length_append] at hle
      have htl := text2_len (ns.getD i [])
      have hxa : (allN x).length <= (allL ks).length := by
       have : (allL (ks.take (i + 1))).length <= (allL ks).length := by
        rw [← List.take_append_drop (i + 1) ks, allL_append, List.length_append, List.take_append_drop]; omega
       rw [htk, allL_snoc, List.length_append] at this; omega
      have hll : (kd :: BitVec.ofNat 8 ns.length :: layL ns (ks.take i)).length = (layL ns (ks.take i)).length + 2 := rfl
      cases x with
      | mk kd' ns' ks' d' r' s' t' =>
       rw [ndD_mk] at hx
       simp -implicitDefEqProofs (disch := omega) only [seval, go_sem, q1, q3, q4, hb2, hdt, hx, hy, hdl]
       refine c_godownref04_Text ?_
       simp -implicitDefEqProofs (disch := omega) only [seval, go_sem, q1, q3, q4, hb2, hdt, hx, hy, hdl, hj]
       refine ih _ hbx' hff (by omega) ?_
       simp -implicitDefEqProofs (disch := omega) only [seval, go_sem, q1, q3, q4, hb2, hdt, hx, hy, hdl, hj]
       refine ⟨n - 1, by omega, i + 1, S2.n + 2, by omega, q1, ?_, rfl, ?_, push_self (TS.push _ _) _, by omega, Nat.lt_succ_self _, by repeat (first | exact hk2 | refine Keep.push' ?_ _ | refine Keep.set ?_ (by first | omega | (simp only [TS.push_n, TS.set_n]; omega)) _)⟩
       · rw [hsn, ← List.append_assoc, ← List.cons_append, ← List.cons_append, ← List.cons_append, ← List.cons_append, dB_app, dB_app]; rfl
       · exact psh_old0 (S := TS.push _ _) (psh_old0 (S := TS.push _ _) (psh_old0 (S := TS.set _ _ _) ((st_old _ (by omega : S.n ≠ j)).trans hb2) (by show S.n < S2.n; omega)) (by show S.n < S2.n + 1; omega)) (by show S.n < S2.n + 2; omega)
    · have e : i = ks.length := by omega
      subst e
      rw [List.take_length] at q3
      simp -implicitDefEqProofs (disch := omega) only [seval, go_sem, q1, q3, q4, hb2, hdt]
      exact ⟨.sl .none 1 (dB (kd :: BitVec.ofNat 8 ns.length :: layL ns ks)), .sl _ _ _, .slN _ _ _, hk2⟩
  by_cases k2 : kd.toNat = 2
  · rw [layN_2 k2] at hlen ⊢
    rw [formN, if_neg k1, if_pos k2, Bool.and_eq_true, decide_eq_true_eq] at hf
    have hd1 := hf.2
    cases r with
    | true =>
     simp -implicitDefEqProofs (disch := omega) only [seval, go_sem, hdl, hdt, hdb]
     refine c_Bits ?_
     simp -implicitDefEqProofs (disch := omega) only [seval, go_sem, hdl, hdt, hdb]
     refine c_Wide ?_
     simp -implicitDefEqProofs (disch := omega) only [seval, go_sem, hdl, hdt, hdb]
     have hwl := wideL_len (bitsF s)
     refine ⟨by omega, ?_⟩
     refine c_godownref04_Text ?_
     have htl := text2_len d
     simp -implicitDefEqProofs (disch := omega) only [seval, go_sem, hdl, hdt, hdb]
     have he : dB (kd :: (if true = true then 1#8 else 0#8) :: (wideL (bitsF s) ++ text2 d)) = [D.lit (w8 kd)] ++ [D.lit (.int .u8 1)] ++ dB (wideL (bitsF s)) ++ dB (text2 d) := by
      rw [List.append_assoc _ (dB _) (dB _), ← dB_app]; rfl
     refine ⟨.sl .none 1 (dB (kd :: (if true = true then 1#8 else 0#8) :: (wideL (bitsF s) ++ text2 d))), ?_, .slN _ _ _, by repeat (first | exact Keep.push _ _ | refine Keep.push' ?_ _ | refine Keep.set ?_ (by first | omega | (simp only [TS.push_n, TS.set_n]; omega)) _)⟩
     rw [he]
     exact .sl _ _ _
    | false =>
     simp -implicitDefEqProofs (disch := omega) only [seval, go_sem, hdl, hdt, hdb]
     refine c_Bits ?_
     simp -implicitDefEqProofs (disch := omega) only [seval, go_sem, hdl, hdt, hdb]
     refine c_Wide ?_
     simp -implicitDefEqProofs (disch := omega) only [seval, go_sem, hdl, hdt, hdb]
     have hwl := wideL_len (bitsF s)
     refine ⟨by omega, ?_⟩
     refine c_godownref04_Text ?_
     have htl := text2_len d
     simp -implicitDefEqProofs (disch := omega) only [seval, go_sem, hdl, hdt, hdb]
     have he : dB (kd :: (if false = true then 1#8 else 0#8) :: (wideL (bitsF s) ++ text2 d)) = [D.lit (w8 kd)] ++ [D.lit (.int .u8 0)] ++ dB (wideL (bitsF s)) ++ dB (text2 d) := by
      rw [List.append_assoc _ (dB _) (dB _), ← dB_app]; rfl
     refine ⟨.sl .none 1 (dB (kd :: (if false = true then 1#8 else 0#8) :: (wideL (bitsF s) ++ text2 d))), ?_, .slN _ _ _, by repeat (first | exact Keep.push _ _ | refine Keep.push' ?_ _ | refine Keep.set ?_ (by first | omega | (simp only [TS.push_n, TS.set_n]; omega)) _)⟩
     rw [he]
     exact .sl _ _ _
  by_cases k3 : kd.toNat = 3
  · rw [layN_3 k3] at hlen ⊢
    rw [formN, if_neg k1, if_neg k2, if_pos k3, Bool.and_eq_true, decide_eq_true_eq] at hf
    have ht1 := hf.2
    simp -implicitDefEqProofs (disch := omega) only [seval, go_sem, hdl, hdt, hdb]
    refine c_godownref04_Text ?_
    simp -implicitDefEqProofs (disch := omega) only [seval, go_sem, hdl, hdt, hdb]
    have htl := text2_len t
    refine ⟨by omega, ?_⟩
    exact ⟨.sl .none 1 (dB (kd :: text2 t)), .sl _ _ _, .slN _ _ _, by repeat (first | exact Keep.push _ _ | refine Keep.push' ?_ _ | refine Keep.set ?_ (by first | omega | (simp only [TS.push_n, TS.set_n]; omega)) _)⟩
  rw [layN_0 k1 k2 k3]
  simp -implicitDefEqProofs (disch := omega) only [seval, go_sem, hdl, hdt, hdb]
  exact ⟨.sl .none 1 (dB [kd]), .sl _ _ _, .slN _ _ _, Keep.push _ _⟩
def gd1 : Bs := [UInt8.toBitVec 103, UInt8.toBitVec 111, UInt8.toBitVec 100, UInt8.toBitVec 111, UInt8.toBitVec 119, UInt8.toBitVec 110, UInt8.toBitVec 49]
def writeN (n : Nd) : Bs × Int := if rightN n = true then (text2 gd1 ++ layN n, 0) else ([], 2)
set_option maxRecDepth 8000 in
set_option maxHeartbeats 1000000 in
theorem c_Write6 {B k : Nat} {n : Nd} {S : TS} {K : TV -> TS -> Prop} (h : NdB B k n) (hB : B <= 1000000) (hk : k <= 8) (hK : K (.tup [.sl .none 1 (dB (writeN n).1), .lit (.int .i64 (writeN n).2)]) S) : TCall env 105 [ndV n] S K := by
 refine TCall.toPureD (r := .tup [.sl .none 1 (dB (writeN n).1), .lit (.int .i64 (writeN n).2)]) ?_ hK
 have hlen := layN_len k n h
 have hr := @c_RightN B k n
 have hly := @c_lay B k n
 unfold writeN
 cases n with
 | mk kd ns ks d r s t =>
  rw [ndV_mk] at *
  refine TCall.w 11 [.tmp 2, .tmp 3] Tryz.func105 rfl rfl rfl rfl (by kernel_rfl) rfl ?_
  simp -implicitDefEqProofs (disch := omega) only [seval, go_sem]
  generalize hS1 : S.push _ = S1
  have hbox : S1.objs S.n = .cells 163 [.lit (w8 kd), .sl .none 1 (dT ns), .sl .none 7 (ndL ks), .sl .none 1 (dB d), .lit (.bool r), .lit (wF s), .lit (.string (st t))] := by rw [← hS1]; exact push_self _ _
  have hkp : Keep S S1 := by rw [← hS1]; exact Keep.push _ _
  refine hr h hB hk ?_
  cases hrn : rightN (.mk kd ns ks d r s t) with
  | false =>
   simp -implicitDefEqProofs (disch := omega) only [seval, go_sem]
   exact ⟨.tup [.sl .none 1 (dB []), .lit (.int .i64 2)], .tupF (.cons (.sl0 _ _ _) (.cons (.refl _) .nil)), .tupF (.cons (.slN _ _ _) (.cons (.lit _) .nil)), hkp⟩
  | true =>
   rw [if_pos rfl]
   rw [rightN, Bool.and_eq_true, Bool.and_eq_true, decide_eq_true_eq, decide_eq_true_eq] at hrn
   have hl2 := hlen hrn.1.1
   have h64 := hrn.2
   simp -implicitDefEqProofs (disch := omega) only [seval, go_sem]
   refine drW_at [(1, 0), (0, 1), (2, 2), (3, 2), (4, 0), (5, 0)] followsN (by kernel_rfl) ?_
   simp -implicitDefEqProofs (disch := omega) only [seval, go_sem, hbox]
   refine c_godownref04_Text (s := gd1) ?_ (by show (7:Nat) <= _; decide)
   simp -implicitDefEqProofs (disch := omega) only [seval, go_sem, psh_old0 hbox (by rw [← hS1]; exact Nat.lt_succ_self _)]
   refine hly h hrn.1.1 h64 ?_
   simp -implicitDefEqProofs (disch := omega) only [seval, go_sem]
   have htl : (text2 gd1).length = 9 := rfl
   refine c_godownref01_Join ?_
   simp -implicitDefEqProofs (disch := omega) only [seval, go_sem]
   exact ⟨.tup [.sl .none 1 (dB (text2 gd1 ++ layN (.mk kd ns ks d r s t))), .lit (.int .i64 0)], .tupF (.cons (.sl _ _ _) (.cons (.refl _) .nil)), .tupF (.cons (.slN _ _ _) (.cons (.lit _) .nil)), (hkp.push' _).push' _⟩
theorem writeN_len {B k : Nat} {n : Nd} (h : NdB B k n) : (writeN n).1.length <= 100000 := by
 unfold writeN
 cases hr : rightN n with
 | false => simp
 | true =>
  rw [rightN, Bool.and_eq_true, Bool.and_eq_true, decide_eq_true_eq, decide_eq_true_eq] at hr
  have := layN_len k n h hr.1.1
  have htl : (text2 gd1).length = 9 := rfl
  rw [if_pos rfl]
  simp only [List.length_append]
  omega
end Go.Proofs.YtoldjfappfbfbaaGreatDoor
namespace Go.Proofs.YtoldjfappfbfbaaGreatDoor
open Go.RowKit TL
structure Mk where
 up : BitVec 8
 kind : BitVec 8
 name : BitVec 8
 data : Bs
 run : Bool
 stamp : BitVec 64
instance : Inhabited Mk := ⟨⟨0#8, 0#8, 0#8, [], false, 0#64⟩⟩
def mkD (m : Mk) : D := .agg [.lit (w8 m.up), .lit (w8 m.kind), .lit (w8 m.name), .sl 1 (dB m.data), .lit (.bool m.run), .lit (wF m.stamp)]
theorem mkD_mk (m : Mk) : mkD m = .agg [.lit (w8 m.up), .lit (w8 m.kind), .lit (w8 m.name), .sl 1 (dB m.data), .lit (.bool m.run), .lit (wF m.stamp)] := rfl
def mkL (l : List Mk) : List D := l.map mkD
theorem mkL_len (l : List Mk) : (mkL l).length = l.length := List.length_map _
theorem mkL_get {l : List Mk} {i : Nat} (h : i < l.length) : (mkL l).getD i default = mkD (l.getD i default) := by
 rw [mkL, List.getD_eq_getElem?_getD, List.getElem?_map, List.getD_eq_getElem?_getD, List.getElem?_eq_getElem h]; rfl
structure KdB (B k c : Nat) (ns : List Bs) (ks : List Nd) : Prop where
 e : ns.length = ks.length
 l : ks.length <= c
 n : ∀ s ∈ ns, s.length <= 40
 k : ∀ x ∈ ks, NdB B k x
theorem KdB.snoc {B k c : Nat} {ns : List Bs} {ks : List Nd} (h : KdB B k c ns ks) {s : Bs} {x : Nd} (hs : s.length <= 40) (hx : NdB B k x) : KdB B k (c + 1) (ns ++ [s]) (ks ++ [x]) :=
 ⟨by simp [h.e], by simp; exact h.l, fun y hy => by
  rcases List.mem_append.1 hy with hy | hy
  · exact h.n y hy
  · rw [List.mem_singleton.1 hy]; exact hs, fun y hy => by
  rcases List.mem_append.1 hy with hy | hy
  · exact h.k y hy
  · rw [List.mem_singleton.1 hy]; exact hx⟩
theorem KdB.mono {B k c c' : Nat} {ns : List Bs} {ks : List Nd} (h : KdB B k c ns ks) (hc : c <= c') : KdB B k c' ns ks := ⟨h.e, Nat.le_trans h.l hc, h.n, h.k⟩
theorem KdB.nil (B k : Nat) : KdB B k 0 [] [] := ⟨rfl, Nat.le_refl _, (fun s h => by cases h), (fun s h => by cases h)⟩
theorem toPureXD {E : Env} {f : FuncId} {args : List TV} {S : TS} {α : Type} {r : α -> TV} {Q : α -> Prop} {K : TV -> TS -> Prop} (h : TCall E f args S fun t S' => ∃ a t', Q a /\ Dg t t' /\ Ren S.n [] t' (r a) /\ Keep S S') (hK : ∀ a, Q a -> K (r a) S) : TCall E f args S K := by
 refine TCall.toPureX (r := r) (Q := Q) (fun w0 c w vs hk hv => (h w0 c w vs hk hv).mono ?_) hK
 rintro v w' ⟨t, c1, S1, h1, h2, h3, a, t', h0, h4, h5, h6⟩
 exact ⟨t', c1, S1, h1, h2, h4.ok h3, a, h0, h5, h6⟩
theorem dg_ndV (k : BitVec 8) (s1 s2 s3 : Nat) (g1 g2 g3 : Tag) (r : Bool) (s : BitVec 64) (ns : List Bs) (ks : List Nd) (d t : Bs) (h1 : (g1 = .full /\ ns = []) ∨ s1 = 1) (h2 : (g2 = .full /\ ks = []) ∨ s2 = 7) (h3 : (g3 = .full /\ d = []) ∨ s3 = 1) :
 Dg (.agg [.lit (w8 k), .sl g1 s1 (dT ns), .sl g2 s2 (ndL ks), .sl g3 s3 (dB d), .lit (.bool r), .lit (wF s), .lit (.string (st t))]) (ndV (.mk k ns ks d r s t)) := by
 rw [ndV_mk]
 refine .aggF (.cons (.refl _) (.cons ?_ (.cons ?_ (.cons ?_ (.cons (.refl _) (.cons (.refl _) (.cons (.refl _) .nil)))))))
 · rcases h1 with ⟨rfl, rfl⟩ | rfl
   · exact .sl0 _ _ _
   · exact .sl _ _ _
 · rcases h2 with ⟨rfl, rfl⟩ | rfl
   · rw [ndL]; exact .sl0 _ _ _
   · exact .sl _ _ _
 · rcases h3 with ⟨rfl, rfl⟩ | rfl
   · exact .sl0 _ _ _
   · exact .sl _ _ _
section
variable {S S0 : TS} {ka kb id : Nat} {o : TObj}
theorem two_old (h : S.objs id = o) (h1 : id ≠ ka) (h2 : id ≠ kb) (h3 : id < S.n) : ((((S.set ka .gone).set kb .gone).push .lin).push .lin).objs id = o := psh_old0 (S := TS.push _ _) (psh_old0 (S := TS.set _ _ _) ((st_old _ h2).trans ((st_old _ h1).trans h)) h3) (Nat.lt_succ_of_lt h3)
theorem two_a : ((((S.set ka .gone).set kb .gone).push .lin).push .lin).objs S.n = .lin := psh_old0 (S := TS.push _ _) (push_self (TS.set _ _ _) _) (Nat.lt_succ_self _)
theorem two_b : ((((S.set ka .gone).set kb .gone).push .lin).push .lin).objs (S.n + 1) = .lin := push_self (TS.push _ _) _
theorem two_keep (h : Keep S0 S) (ha : S0.n <= ka) (hb : S0.n <= kb) : Keep S0 ((((S.set ka .gone).set kb .gone).push .lin).push .lin) := (((h.set ha _).set hb _).push' _).push' _
theorem two_n : ((((S.set ka .gone).set kb .gone).push .lin).push .lin).n = S.n + 2 := rfl
end
theorem loW_invG {E : Env} {N : Nat} {c : Code} {p : Pin c} {Q : Exit -> (Nat -> TV) -> TS -> Prop} {T : Nat -> TV} {S : TS} (I : Nat -> (Nat -> TV) -> TS -> Prop) (n : Nat) (h0 : I n T S) (round : ∀ n T S, I n T S -> ∃ S2, Gh S S2 /\ W E N c (loopK I n Q) T S2) : loW E N c p Q T S :=
 .loop I n h0 fun n T S h => by
  obtain ⟨S2, hg, hw⟩ := round n T S h
  exact (W.gh hg (W_ok hw)).mono fun e _ _ hq => by cases e <;> exact hq
theorem NdB_link {B k : Nat} {d : Bs} (h : d.length <= B + 1) : NdB B (k + 1) (.mk 3#8 [] [] [] false 0#64 d) := ⟨rfl, by simp, by simp, h, (fun s h => by cases h), (fun s h => by cases h)⟩
theorem NdB_file {B k : Nat} {d : Bs} {r : Bool} {s : BitVec 64} (h : d.length <= B) : NdB B (k + 1) (.mk 2#8 [] [] d r s []) := ⟨rfl, by simp, h, by simp, (fun s h => by cases h), (fun s h => by cases h)⟩
theorem NdB_dir {B k c : Nat} {ns : List Bs} {ks : List Nd} (h : KdB B k c ns ks) (hc : c <= 39) : NdB B (k + 1) (.mk 1#8 ns ks [] false 0#64 []) := ⟨h.e, Nat.le_trans h.l hc, by simp, by simp, h.n, h.k⟩
set_option maxRecDepth 8000 in
set_option maxHeartbeats 8000000 in
theorem c_kids {B : Nat} (hB : B <= 1000000) {l : List Mk} (hl : l.length <= 40) (hd : ∀ m ∈ l, m.data.length <= B) : ∀ (k : Nat) {dp at_ : Nat} {g : Tag} {S : TS} {K : TV -> TS -> Prop}, at_ < l.length -> dp + k = 8 -> 1 <= dp -> (∀ n, NdB B (k + 1) n -> K (ndV n) S) →
 TCall env 133 [.sl g 6 (mkL l), .lit (.int .i64 (at_ : Int)), .lit (.int .i64 (dp : Int))] S K := by
 intro k
 induction k using Nat.strongRecOn with
 | _ k ih =>
  intro dp at_ g S K hat hk hk1 hK
  refine toPureXD (r := ndV) (Q := NdB B (k + 1)) ?_ hK
  have hx := mkL_get hat
  have hdl := mkL_len l
  have hmem : l.getD at_ default ∈ l := getD_mem hat
  generalize l.getD at_ default = m at *
  have hmd := hd m hmem
  have hdb := dB_len m.data
  rw [mkD_mk] at hx
  refine TCall.w 138 [.cell 6 163] Tryz.func133 rfl rfl rfl rfl (by kernel_rfl) rfl ?_
  simp -implicitDefEqProofs (disch := omega) only [seval, go_sem, hx, hdl, hdb]
  refine cdK_d (fun hc => ?_) (fun hc => ?_)
  · have hsa : tvBin Tryz.prog .add 9 (.string (st [UInt8.toBitVec 116])) (.string (st m.data)) = some (.string (st (UInt8.toBitVec 116 :: m.data))) := str_add _ _ _ _ (by show 1 + m.data.length <= _; omega)
    simp -implicitDefEqProofs (disch := omega) only [seval, go_sem, hx, hdl, hdb, hsa]
    refine ⟨_, resCell (id := S.n) rfl ti163 (psh_old0 (push_self _ _) (Nat.lt_succ_self _)) rfl rfl, ?_⟩
    exact ⟨.mk 3#8 [] [] [] false 0#64 (UInt8.toBitVec 116 :: m.data), _, NdB_link (by simp; exact hmd), dg_ndV 3#8 0 0 0 .full .full .full false 0#64 [] [] [] _ (.inl ⟨rfl, rfl⟩) (.inl ⟨rfl, rfl⟩) (.inl ⟨rfl, rfl⟩), ren_ndV _ _ _, (Keep.push _ _).push' _⟩
  simp -implicitDefEqProofs (disch := omega) only [seval, go_sem, hx, hdl, hdb]
  by_cases hc2 : (m.kind % 4#8).toNat > 0
  · simp -implicitDefEqProofs (disch := omega) only [seval, go_sem, hx, hdl, hdb]
    refine ⟨_, resCell (id := S.n) rfl ti163 (psh_old0 (push_self _ _) (Nat.lt_succ_self _)) rfl rfl, ?_⟩
    exact ⟨.mk 2#8 [] [] m.data m.run m.stamp [], _, NdB_file hmd, dg_ndV 2#8 0 0 1 .full .full .none m.run m.stamp [] [] m.data [] (.inl ⟨rfl, rfl⟩) (.inl ⟨rfl, rfl⟩) (.inr rfl), ren_ndV _ _ _, (Keep.push _ _).push' _⟩
  by_cases hk0 : k = 0
  · simp -implicitDefEqProofs (disch := omega) only [seval, go_sem, hx, hdl, hdb]
    refine ⟨_, resCell (id := S.n) rfl ti163 (psh_old0 (push_self _ _) (Nat.lt_succ_self _)) rfl rfl, ?_⟩
    exact ⟨.mk 2#8 [] [] m.data m.run m.stamp [], _, NdB_file hmd, dg_ndV 2#8 0 0 1 .full .full .none m.run m.stamp [] [] m.data [] (.inl ⟨rfl, rfl⟩) (.inl ⟨rfl, rfl⟩) (.inr rfl), ren_ndV _ _ _, (Keep.push _ _).push' _⟩
  obtain ⟨k, rfl⟩ : ∃ k', k = k' + 1 := ⟨k - 1, by omega⟩
  simp -implicitDefEqProofs (disch := omega) only [seval, go_sem, hx, hdl, hdb]
  have hbx : ((((S.push (.cells 163 [.lit (.int .u8 0), .sl .full 0 [], .sl .full 0 [], .sl .full 0 [], .lit (.bool false), .lit (.float .f64 0), .lit (.string (st []))])).push (.cells 156 [.lit (w8 m.up), .lit (w8 m.kind), .lit (w8 m.name), .sl .none 1 (dB m.data), .lit (.bool m.run), .lit (wF m.stamp)])).push (.cells 163 [.lit (.int .u8 1), .sl .full 0 [], .sl .full 0 [], .sl .full 0 [], .lit (.bool false), .lit (.float .f64 0), .lit (.string (st []))]))).objs (S.n + 2) = .cells 163 [.lit (.int .u8 1), .sl .full 0 [], .sl .full 0 [], .sl .full 0 [], .lit (.bool false), .lit (.float .f64 0), .lit (.string (st []))] := push_self ((S.push _).push _) _
  have hbr : ((((S.push (.cells 163 [.lit (.int .u8 0), .sl .full 0 [], .sl .full 0 [], .sl .full 0 [], .lit (.bool false), .lit (.float .f64 0), .lit (.string (st []))])).push (.cells 156 [.lit (w8 m.up), .lit (w8 m.kind), .lit (w8 m.name), .sl .none 1 (dB m.data), .lit (.bool m.run), .lit (wF m.stamp)])).push (.cells 163 [.lit (.int .u8 1), .sl .full 0 [], .sl .full 0 [], .sl .full 0 [], .lit (.bool false), .lit (.float .f64 0), .lit (.string (st []))]))).objs S.n = .cells 163 [.lit (.int .u8 0), .sl .full 0 [], .sl .full 0 [], .sl .full 0 [], .lit (.bool false), .lit (.float .f64 0), .lit (.string (st []))] := psh_old0 (psh_old0 (push_self _ _) (Nat.lt_succ_self _)) (Nat.lt_succ_of_lt (Nat.lt_succ_self _))
  have hkp : Keep S (((S.push (.cells 163 [.lit (.int .u8 0), .sl .full 0 [], .sl .full 0 [], .sl .full 0 [], .lit (.bool false), .lit (.float .f64 0), .lit (.string (st []))])).push (.cells 156 [.lit (w8 m.up), .lit (w8 m.kind), .lit (w8 m.name), .sl .none 1 (dB m.data), .lit (.bool m.run), .lit (wF m.stamp)])).push (.cells 163 [.lit (.int .u8 1), .sl .full 0 [], .sl .full 0 [], .sl .full 0 [], .lit (.bool false), .lit (.float .f64 0), .lit (.string (st []))])) := ((Keep.push _ _).push' _).push' _
  have hn3 : (((S.push (.cells 163 [.lit (.int .u8 0), .sl .full 0 [], .sl .full 0 [], .sl .full 0 [], .lit (.bool false), .lit (.float .f64 0), .lit (.string (st []))])).push (.cells 156 [.lit (w8 m.up), .lit (w8 m.kind), .lit (w8 m.name), .sl .none 1 (dB m.data), .lit (.bool m.run), .lit (wF m.stamp)])).push (.cells 163 [.lit (.int .u8 1), .sl .full 0 [], .sl .full 0 [], .sl .full 0 [], .lit (.bool false), .lit (.float .f64 0), .lit (.string (st []))])).n = S.n + 3 := rfl
  generalize ((S.push (.cells 163 [.lit (.int .u8 0), .sl .full 0 [], .sl .full 0 [], .sl .full 0 [], .lit (.bool false), .lit (.float .f64 0), .lit (.string (st []))])).push (.cells 156 [.lit (w8 m.up), .lit (w8 m.kind), .lit (w8 m.name), .sl .none 1 (dB m.data), .lit (.bool m.run), .lit (wF m.stamp)])).push (.cells 163 [.lit (.int .u8 1), .sl .full 0 [], .sl .full 0 [], .sl .full 0 [], .lit (.bool false), .lit (.float .f64 0), .lit (.string (st []))]) = S1 at *
  refine loW.gh (Gh.cells hbx (cs' := [.lit (.int .u8 1), .sl .none 1 (dT []), .sl .none 7 (ndL []), .sl .full 0 [], .lit (.bool false), .lit (.float .f64 0), .lit (.string (st []))]) (.cons (.refl _) (.cons (.sl0 _ _ _) (.cons (by rw [ndL]; exact .sl0 _ _ _) (.cons (.refl _) (.cons (.refl _) (.cons (.refl _) (.cons (.refl _) .nil)))))))) ?_
  refine loW_invG (fun n T S' => ∃ (i : Nat) (ns : List Bs) (ks : List Nd) (g1 g2 : Tag), n + i = l.length /\ at_ < i /\ T 0 = .sl g 6 (mkL l) /\ T 1 = .lit (.int .i64 (at_ : Int)) /\ T 2 = .lit (.int .i64 (dp : Int)) /\ T 6 = .ptr S.n 0 /\ T 8 = .ptr (S.n + 2) 0 /\ T 9 = .lit (.int .i64 (i : Int)) ∧
   S'.objs (S.n + 2) = .cells 163 [.lit (.int .u8 1), .sl g1 1 (dT ns), .sl g2 7 (ndL ks), .sl .full 0 [], .lit (.bool false), .lit (.float .f64 0), .lit (.string (st []))] /\ S'.objs S.n = .cells 163 [.lit (.int .u8 0), .sl .full 0 [], .sl .full 0 [], .sl .full 0 [], .lit (.bool false), .lit (.float .f64 0), .lit (.string (st []))] /\ KdB B (k + 1) (i - at_ - 1) ns ks /\ S.n + 2 < S'.n /\ Keep S S') (l.length - (at_ + 1)) ?_ ?_
  · exact ⟨at_ + 1, [], [], .none, .none, by omega, Nat.lt_succ_self _, rfl, rfl, rfl, rfl, rfl, rfl, TS.set_same' _ _ _, (st_old _ (by omega)).trans hbr, ⟨rfl, Nat.zero_le _, (fun s h => by cases h), (fun s h => by cases h)⟩, by show S.n + 2 < S1.n; omega, hkp.set (by omega) _⟩
  rintro n T S20 ⟨i, ns, ks, g1, g2, hi, hai, q0, q1, q2, q6, q8, q9, hb20, hbr20, hkd, hn20, hk20⟩
  obtain ⟨S2, hg2, hb2, hbr2, hn2, hk2⟩ : ∃ S2, Gh S20 S2 /\ S2.objs (S.n + 2) = .cells 163 [.lit (.int .u8 1), .sl .none 1 (dT ns), .sl .none 7 (ndL ks), .sl .full 0 [], .lit (.bool false), .lit (.float .f64 0), .lit (.string (st []))] /\ S2.objs S.n = .cells 163 [.lit (.int .u8 0), .sl .full 0 [], .sl .full 0 [], .sl .full 0 [], .lit (.bool false), .lit (.float .f64 0), .lit (.string (st []))] /\ S.n + 2 < S2.n /\ Keep S S2 :=
   ⟨_, Gh.cells hb20 (.cons (.refl _) (.cons (.sl _ _ _) (.cons (.sl _ _ _) (.cons (.refl _) (.cons (.refl _) (.cons (.refl _) (.cons (.refl _) .nil))))))), TS.set_same' _ _ _, (st_old _ (by omega)).trans hbr20, hn20, hk20.set (by omega) _⟩
  refine ⟨S2, hg2, ?_⟩
  clear hb20 hbr20 hn20 hk20 hg2
  simp -implicitDefEqProofs (disch := omega) only [seval, go_sem, q0, q1, q2, q6, q8, q9, hdl]
  refine cdK_d (fun hc3 => ?_) (fun hc3 => ?_)
  · have hlt : i < l.length := by omega
    have hxi := mkL_get hlt
    generalize l.getD i default = x at *
    rw [mkD_mk] at hxi
    simp -implicitDefEqProofs (disch := omega) only [seval, go_sem, q0, q1, q2, q6, q8, q9, hdl, hxi]
    refine cdK_d (fun hc4 => ?_) (fun hc4 => ?_)
    · simp -implicitDefEqProofs (disch := omega) only [seval, go_sem, q0, q1, q2, q6, q8, q9, hdl, hxi]
      exact ⟨n - 1, by omega, i + 1, ns, ks, .none, .none, by omega, by omega, q0, q1, q2, q6, q8, rfl, hb2, hbr2, ⟨hkd.e, Nat.le_trans hkd.l (by omega), hkd.n, hkd.k⟩, hn2, hk2⟩
    simp -implicitDefEqProofs (disch := omega) only [seval, go_sem, q0, q1, q2, q6, q8, q9, hdl, hxi]
    refine c_title ?_
    simp -implicitDefEqProofs (disch := omega) only [seval, go_sem, q0, q1, q2, q6, q8, q9, hdl, hxi]
    refine ih k (Nat.lt_succ_self _) (dp := dp + 1) hlt (by omega) (by omega) fun y hy0 => ?_
    have htt : (titleS x.name).length = 2 := rfl
    generalize titleS x.name = s at *
    cases y with
    | mk kd' ns' ks' d' r' s' t' =>
     rw [ndV_mk]
     simp -implicitDefEqProofs (disch := omega) only [seval, go_sem, q0, q1, q2, q6, q8, q9, hdl, hxi]
     refine loW.asRow 12 1 rfl (.inl rfl) ?_
     refine loW.asRow 13 7 rfl (.inl rfl) ?_
     have e1 : (((S2.push (.cells 163 [.lit (w8 kd'), .sl .none 1 (dT ns'), .sl .none 7 (ndL ks'), .sl .none 1 (dB d'), .lit (.bool r'), .lit (wF s'), .lit (.string (st t'))])).push .lin).push .lin).objs (S.n + 2) = .cells 163 [.lit (.int .u8 1), .sl .none 1 (dT ns), .sl .none 7 (ndL ks), .sl .full 0 [], .lit (.bool false), .lit (.float .f64 0), .lit (.string (st []))] := psh_old0 (psh_old0 (psh_old0 hb2 hn2) (Nat.lt_succ_of_lt hn2)) (Nat.lt_succ_of_lt (Nat.lt_succ_of_lt hn2))
     have e2 : (((S2.push (.cells 163 [.lit (w8 kd'), .sl .none 1 (dT ns'), .sl .none 7 (ndL ks'), .sl .none 1 (dB d'), .lit (.bool r'), .lit (wF s'), .lit (.string (st t'))])).push .lin).push .lin).objs S.n = .cells 163 [.lit (.int .u8 0), .sl .full 0 [], .sl .full 0 [], .sl .full 0 [], .lit (.bool false), .lit (.float .f64 0), .lit (.string (st []))] := psh_old0 (psh_old0 (psh_old0 hbr2 (by omega)) (by rw [TS.push_n]; omega)) (by rw [TS.push_n, TS.push_n]; omega)
     have e3 : (((S2.push (.cells 163 [.lit (w8 kd'), .sl .none 1 (dT ns'), .sl .none 7 (ndL ks'), .sl .none 1 (dB d'), .lit (.bool r'), .lit (wF s'), .lit (.string (st t'))])).push .lin).push .lin).objs S2.n = .cells 163 [.lit (w8 kd'), .sl .none 1 (dT ns'), .sl .none 7 (ndL ks'), .sl .none 1 (dB d'), .lit (.bool r'), .lit (wF s'), .lit (.string (st t'))] := psh_old0 (psh_old0 (push_self _ _) (Nat.lt_succ_self _)) (Nat.lt_succ_of_lt (Nat.lt_succ_self _))
     have e4 : (((S2.push (.cells 163 [.lit (w8 kd'), .sl .none 1 (dT ns'), .sl .none 7 (ndL ks'), .sl .none 1 (dB d'), .lit (.bool r'), .lit (wF s'), .lit (.string (st t'))])).push .lin).push .lin).objs (S2.n + 1) = .lin := psh_old0 (push_self (S2.push _) _) (Nat.lt_succ_self _)
     have e5 : (((S2.push (.cells 163 [.lit (w8 kd'), .sl .none 1 (dT ns'), .sl .none 7 (ndL ks'), .sl .none 1 (dB d'), .lit (.bool r'), .lit (wF s'), .lit (.string (st t'))])).push .lin).push .lin).objs (S2.n + 2) = .lin := push_self ((S2.push _).push _) _
     have e6 : (((S2.push (.cells 163 [.lit (w8 kd'), .sl .none 1 (dT ns'), .sl .none 7 (ndL ks'), .sl .none 1 (dB d'), .lit (.bool r'), .lit (wF s'), .lit (.string (st t'))])).push .lin).push .lin).n = S2.n + 3 := rfl
     have e7 : Keep S (((S2.push (.cells 163 [.lit (w8 kd'), .sl .none 1 (dT ns'), .sl .none 7 (ndL ks'), .sl .none 1 (dB d'), .lit (.bool r'), .lit (wF s'), .lit (.string (st t'))])).push .lin).push .lin) := ((hk2.push' _).push' _).push' _
     simp only [TS.push_n]
     generalize ((S2.push (.cells 163 [.lit (w8 kd'), .sl .none 1 (dT ns'), .sl .none 7 (ndL ks'), .sl .none 1 (dB d'), .lit (.bool r'), .lit (wF s'), .lit (.string (st t'))])).push .lin).push .lin = S3 at *
     have hdn := dT_len ns
     have hdk := ndL_len ks
     have hbl := hkd.l
     refine loW_inv (fun n2 T2 S' => ∃ (j : Nat) (a : List Bs) (b : List Nd) (ka kb : Nat) (dn : Bool), n2 + j = ns.length /\ T2 0 = .sl g 6 (mkL l) /\ T2 1 = .lit (.int .i64 (at_ : Int)) /\ T2 2 = .lit (.int .i64 (dp : Int)) /\ T2 6 = .ptr S.n 0 /\ T2 8 = .ptr (S.n + 2) 0 /\ T2 9 = .lit (.int .i64 (i : Int)) /\ T2 10 = .lit (.string (st s)) /\ T2 11 = .ptr S2.n 0 ∧
      T2 12 = .sl (.own ka) 1 (dT a) /\ T2 13 = .sl (.own kb) 7 (ndL b) /\ T2 14 = .lit (.bool dn) /\ T2 15 = .lit (.int .i64 (j : Int)) /\ S'.objs (S.n + 2) = .cells 163 [.lit (.int .u8 1), .sl .none 1 (dT ns), .sl .none 7 (ndL ks), .sl .full 0 [], .lit (.bool false), .lit (.float .f64 0), .lit (.string (st []))] /\ S'.objs S.n = .cells 163 [.lit (.int .u8 0), .sl .full 0 [], .sl .full 0 [], .sl .full 0 [], .lit (.bool false), .lit (.float .f64 0), .lit (.string (st []))] /\ S'.objs S2.n = .cells 163 [.lit (w8 kd'), .sl .none 1 (dT ns'), .sl .none 7 (ndL ks'), .sl .none 1 (dB d'), .lit (.bool r'), .lit (wF s'), .lit (.string (st t'))] ∧
      S'.objs ka = .lin /\ S'.objs kb = .lin /\ ka ≠ kb /\ S2.n < ka /\ S2.n < kb /\ ka < S'.n /\ kb < S'.n /\ KdB B (k + 1) (j + if dn then 1 else 0) a b /\ Keep S S') ns.length ?_ ?_
     · exact ⟨0, [], [], S2.n + 1, S2.n + 2, false, rfl, q0, q1, q2, q6, q8, q9, rfl, rfl, rfl, (by rw [ndL]; rfl), rfl, rfl, e1, e2, e3, e4, e5, by omega, by omega, by omega, by omega, by omega, KdB.nil _ _, e7⟩
     clear e1 e2 e3 e4 e5 e6 e7
     rintro n2 T2 S4 ⟨j, a, b, ka, kb, dn, hj, w0, w1, w2, w6, w8', w9, w10, w11, w12, w13, w14, w15, o1, o2, o3, oa, ob, hab, ha1, hb1, ha2, hb3, hkb, hk4⟩
     have hda := dT_len a
     have hdb2 := ndL_len b
     have hae := hkb.e
     have hal := hkb.l
     simp -implicitDefEqProofs (disch := omega) only [seval, go_sem, w0, w1, w2, w6, w8', w9, w10, w11, w12, w13, w14, w15, o1, o2, o3, hdn]
     refine cdK_d (fun hc5 => ?_) (fun hc5 => ?_)
     · have hltn : j < ns.length := by omega
       have hltk : j < ks.length := by have := hkd.e; omega
       have hy := dT_get hltn
       have hz := ndL_get hltk
       have hym : (ns.getD j []).length <= 40 := hkd.n _ (getD_mem hltn)
       have hzm : NdB B (k + 1) (ks.getD j default) := hkd.k _ (getD_mem hltk)
       generalize ns.getD j [] = yn at *
       generalize ks.getD j default = yk at *
       cases yk with
       | mk kd2 ns2 ks2 d2 r2 s2 t2 =>
        rw [ndD_mk] at hz
        cases dn with
        | true =>
         rw [if_pos rfl] at hal hkb
         simp -implicitDefEqProofs (disch := omega) only [seval, go_sem, w0, w1, w2, w6, w8', w9, w10, w11, w12, w13, w14, w15, o1, o2, o3, hdn, hy, hz, hda, hdb2, hdk, oa, ob]
         refine drW_at [(0, 0), (1, 0), (2, 0), (3, 0), (4, 0), (5, 0), (8, 0), (9, 0), (10, 0), (11, 0), (12, 0), (13, 0), (6, 3), (14, 3), (7, 1), (15, 2), (16, 0), (17, 0)] followsN (by kernel_rfl) ?_
         simp -implicitDefEqProofs (disch := omega) only [seval, go_sem, w0, w1, w2, w6, w8', w9, w10, w11, w12, w13, w14, w15, o1, o2, o3, hdn, hy, hz, hda, hdb2, hdk, oa, ob]
         refine ⟨KpL.grow oa _, rfl, n2 - 1, by omega, j + 1, a ++ [yn], b ++ [(.mk kd2 ns2 ks2 d2 r2 s2 t2)], S4.n, S4.n + 1, true, by omega, w0, w1, w2, w6, w8', w9, w10, w11, ?_, ?_, w14, rfl, two_old o1 (by omega) (by omega) (by omega), two_old o2 (by omega) (by omega) (by omega), two_old o3 (by omega) (by omega) (by omega), two_a, two_b, by omega, by omega, by omega, by rw [two_n]; omega, by rw [two_n]; omega, (hkb.snoc hym hzm), two_keep hk4 (by omega) (by omega)⟩
         · simp only [dT_app]; rfl
         · simp only [ndL_app, ndL, ndD_mk]; rfl
        | false =>
         rw [if_neg (by simp)] at hal hkb
         cases hlq : (ltS s yn || decide (s = yn)) with
         | false =>
          simp -implicitDefEqProofs (disch := omega) only [seval, go_sem, w0, w1, w2, w6, w8', w9, w10, w11, w12, w13, w14, w15, o1, o2, o3, hdn, hy, hz, hda, hdb2, hdk, oa, ob, hlq]
          refine drW_at [(0, 0), (1, 0), (2, 0), (3, 0), (4, 0), (5, 0), (8, 0), (9, 0), (10, 0), (11, 0), (12, 0), (13, 0), (6, 3), (14, 3), (7, 1), (15, 2), (16, 0), (17, 0)] followsN (by kernel_rfl) ?_
          simp -implicitDefEqProofs (disch := omega) only [seval, go_sem, w0, w1, w2, w6, w8', w9, w10, w11, w12, w13, w14, w15, o1, o2, o3, hdn, hy, hz, hda, hdb2, hdk, oa, ob]
          refine ⟨KpL.grow oa _, rfl, n2 - 1, by omega, j + 1, a ++ [yn], b ++ [(.mk kd2 ns2 ks2 d2 r2 s2 t2)], S4.n, S4.n + 1, false, by omega, w0, w1, w2, w6, w8', w9, w10, w11, ?_, ?_, w14, rfl, two_old o1 (by omega) (by omega) (by omega), two_old o2 (by omega) (by omega) (by omega), two_old o3 (by omega) (by omega) (by omega), two_a, two_b, by omega, by omega, by omega, by rw [two_n]; omega, by rw [two_n]; omega, (hkb.snoc hym hzm), two_keep hk4 (by omega) (by omega)⟩
          · simp only [dT_app]; rfl
          · simp only [ndL_app, ndL, ndD_mk]; rfl
         | true =>
          simp -implicitDefEqProofs (disch := omega) only [seval, go_sem, w0, w1, w2, w6, w8', w9, w10, w11, w12, w13, w14, w15, o1, o2, o3, hdn, hy, hz, hda, hdb2, hdk, oa, ob, hlq]
          refine drW_at [(0, 0), (1, 0), (4, 0), (5, 0), (2, 3), (6, 3), (3, 1), (7, 2), (8, 0), (9, 0)] followsN (by kernel_rfl) ?_
          simp -implicitDefEqProofs (disch := omega) only [seval, go_sem, w0, w1, w2, w6, w8', w9, w10, w11, w12, w13, w14, w15, o1, o2, o3, hdn, hy, hz, hda, hdb2, hdk, oa, ob]
          refine ⟨KpL.grow oa _, rfl, ?_⟩
          have e1 := two_old (ka := ka) (kb := kb) o1 (by omega) (by omega) (by omega)
          have e2 := two_old (ka := ka) (kb := kb) o2 (by omega) (by omega) (by omega)
          have e3 := two_old (ka := ka) (kb := kb) o3 (by omega) (by omega) (by omega)
          have ea := two_a (S := S4) (ka := ka) (kb := kb)
          have eb := two_b (S := S4) (ka := ka) (kb := kb)
          have ek := two_keep (ka := ka) (kb := kb) hk4 (by omega) (by omega)
          have en := two_n (S := S4) (ka := ka) (kb := kb)
          have k2 := hkb.snoc (s := s) (x := (.mk kd' ns' ks' d' r' s' t')) (by omega) hy0
          generalize (((S4.set ka .gone).set kb .gone).push .lin).push .lin = S5 at *
          have fa : dT a ++ [D.lit (.string (st s))] = dT (a ++ [s]) := by rw [dT_app]; rfl
          have fb : ndL b ++ [D.agg [.lit (w8 kd'), .sl 1 (dT ns'), .sl 7 (ndL ks'), .sl 1 (dB d'), .lit (.bool r'), .lit (wF s'), .lit (.string (st t'))]] = ndL (b ++ [(.mk kd' ns' ks' d' r' s' t')]) := by rw [ndL_app, ndL, ndL, ndD_mk]
          have la := dT_len (a ++ [s])
          have lb := ndL_len (b ++ [(.mk kd' ns' ks' d' r' s' t')])
          rw [List.length_append, List.length_singleton] at la lb
          refine cdK_d (fun hc6 => ?_) (fun hc6 => ?_)
          · simp -implicitDefEqProofs (disch := omega) only [seval, go_sem, w0, w1, w2, w6, w8', w9, w10, w11, w12, w13, w14, w15, o1, o2, o3, hdn, hy, hz, hda, hdb2, hdk, oa, ob, fa, fb]
            exact ⟨n2 - 1, by omega, j + 1, a ++ [s], b ++ [(.mk kd' ns' ks' d' r' s' t')], S4.n, S4.n + 1, true, by omega, w0, w1, w2, w6, w8', w9, w10, w11, rfl, rfl, rfl, rfl, e1, e2, e3, ea, eb, by omega, by omega, by omega, by omega, by omega, k2.mono (by simp), ek⟩
          · simp -implicitDefEqProofs (disch := omega) only [seval, go_sem, w0, w1, w2, w6, w8', w9, w10, w11, w15, e1, e2, e3, hdn, hy, hz, hdk, fa, fb]
            refine drW_at [(0, 0), (1, 0), (2, 0), (3, 0), (4, 0), (5, 0), (8, 0), (9, 0), (10, 0), (11, 0), (12, 0), (13, 0), (6, 3), (14, 3), (7, 1), (15, 2), (16, 0), (17, 0)] followsN (by kernel_rfl) ?_
            simp -implicitDefEqProofs (disch := omega) only [seval, go_sem, w0, w1, w2, w6, w8', w9, w10, w11, w15, e1, e2, e3, hdn, hy, hz, hdk, fa, fb, la, lb, ea, eb]
            refine ⟨KpL.grow ea _, rfl, n2 - 1, by omega, j + 1, (a ++ [s]) ++ [yn], (b ++ [(.mk kd' ns' ks' d' r' s' t')]) ++ [(.mk kd2 ns2 ks2 d2 r2 s2 t2)], S5.n, S5.n + 1, true, by omega, w0, w1, w2, w6, w8', w9, w10, w11, ?_, ?_, rfl, rfl, two_old e1 (by omega) (by omega) (by omega), two_old e2 (by omega) (by omega) (by omega), two_old e3 (by omega) (by omega) (by omega), two_a, two_b, by omega, by omega, by omega, by rw [two_n]; omega, by rw [two_n]; omega, ((k2.snoc hym hzm).mono (by simp)), two_keep ek (by omega) (by omega)⟩
            · simp only [dT_app]; rfl
            · simp only [ndL_app, ndL, ndD_mk]; rfl
     · have e : j = ns.length := by omega
       subst e
       have hkde := hkd.e
       cases dn with
       | true =>
        rw [if_pos rfl] at hal hkb
        simp -implicitDefEqProofs (disch := omega) only [seval, go_sem, w0, w1, w2, w6, w8', w9, w10, w11, w12, w13, w14, w15, o1, o2, o3, hdn, hda, hdb2, hdk, oa, ob]
        exact ⟨n - 1, by omega, i + 1, a, b, .own ka, .own kb, by omega, by omega, w0, w1, w2, w6, w8', rfl, TS.set_same' _ _ _, (st_old _ (by omega)).trans ((st_old _ (by omega)).trans o2), hkb.mono (by have := hkd.e; omega), by show S.n + 2 < S4.n; omega, (hk4.set (by omega) _).set (by omega) _⟩
       | false =>
        rw [if_neg (by simp)] at hal hkb
        simp -implicitDefEqProofs (disch := omega) only [seval, go_sem, w0, w1, w2, w6, w8', w9, w10, w11, w12, w13, w14, w15, o1, o2, o3, hdn, hda, hdb2, hdk, oa, ob]
        refine drW_at [(0, 0), (1, 0), (4, 0), (5, 0), (2, 3), (6, 3), (3, 1), (7, 2), (8, 0), (9, 0)] followsN (by kernel_rfl) ?_
        have e1 := two_old (ka := ka) (kb := kb) o1 (by omega) (by omega) (by omega)
        have e2 := two_old (ka := ka) (kb := kb) o2 (by omega) (by omega) (by omega)
        have k2 := hkb.snoc (s := s) (x := (.mk kd' ns' ks' d' r' s' t')) (by omega) hy0
        have fa : dT a ++ [D.lit (.string (st s))] = dT (a ++ [s]) := by rw [dT_app]; rfl
        have fb : ndL b ++ [D.agg [.lit (w8 kd'), .sl 1 (dT ns'), .sl 7 (ndL ks'), .sl 1 (dB d'), .lit (.bool r'), .lit (wF s'), .lit (.string (st t'))]] = ndL (b ++ [(.mk kd' ns' ks' d' r' s' t')]) := by rw [ndL_app, ndL, ndL, ndD_mk]
        simp -implicitDefEqProofs (disch := omega) only [seval, go_sem, w0, w1, w2, w6, w8', w9, w10, w11, w12, w13, w14, w15, o1, o2, o3, hdn, hda, hdb2, hdk, oa, ob, fa, fb, e1, e2]
        refine ⟨KpL.grow oa _, rfl, ?_⟩
        refine ⟨n - 1, by omega, i + 1, a ++ [s], b ++ [(.mk kd' ns' ks' d' r' s' t')], .own S4.n, .own (S4.n + 1), by omega, by omega, w0, w1, w2, w6, w8', rfl, psh_old0 (psh_old0 (TS.set_same' _ _ _) (by show S.n + 2 < S4.n; omega)) (by show S.n + 2 < S4.n + 1; omega), psh_old0 (psh_old0 ((st_old _ (by omega)).trans ((st_old _ (by omega)).trans ((st_old _ (by omega)).trans ((st_old _ (by omega)).trans o2)))) (by show S.n < S4.n; omega)) (by show S.n < S4.n + 1; omega), k2.mono (by omega), by show S.n + 2 < S4.n + 2; omega, (((((hk4.set (by omega) _).set (by omega) _).set (by omega) _).set (by omega) _).push' _).push' _⟩
  · have e : i = l.length := by omega
    subst e
    simp -implicitDefEqProofs (disch := omega) only [seval, go_sem, q0, q1, q2, q6, q8, q9, hdl, hb2, hbr2]
    refine ⟨_, resCell (id := S.n) q6 ti163 (TS.set_same' _ _ _) rfl rfl, ?_⟩
    exact ⟨.mk 1#8 ns ks [] false 0#64 [], _, NdB_dir hkd (by omega), dg_ndV 1#8 1 7 0 .none .none .full false 0#64 ns ks [] [] (.inr rfl) (.inr rfl) (.inl ⟨rfl, rfl⟩), ren_ndV _ _ _, hk2.set (Nat.le_refl _) _⟩
end Go.Proofs.YtoldjfappfbfbaaGreatDoor
namespace Go.Proofs.YtoldjfappfbfbaaGreatDoor
open Go.RowKit TL
set_option maxRecDepth 8000 in
set_option maxHeartbeats 1000000 in
theorem c_Make5 {B : Nat} (hB : B <= 1000000) {l : List Mk} (hl : l.length <= 40) (hd : ∀ m ∈ l, m.data.length <= B) {g : Tag} {S : TS} {K : TV -> TS -> Prop} (hK : ∀ n, NdB B 8 n -> K (ndV n) S) :
 TCall env 106 [.sl g 6 (mkL l)] S K := by
 refine toPureXD (r := ndV) (Q := NdB B 8) ?_ hK
 have hdl := mkL_len l
 refine TCall.w 14 [.cell 2 163] Tryz.func106 rfl rfl rfl rfl (by kernel_rfl) rfl ?_
 simp -implicitDefEqProofs (disch := omega) only [seval, go_sem, hdl]
 refine cdK_d (fun hc => ?_) (fun hc => ?_)
 · simp -implicitDefEqProofs (disch := omega) only [seval, go_sem, hdl]
   refine ⟨_, resCell (id := S.n) rfl ti163 (push_self _ _) rfl rfl, ?_⟩
   exact ⟨.mk 2#8 [] [] [] false 0#64 [], _, NdB_file (k := 7) (Nat.zero_le _), dg_ndV 2#8 0 0 0 .full .full .full false 0#64 [] [] [] [] (.inl ⟨rfl, rfl⟩) (.inl ⟨rfl, rfl⟩) (.inl ⟨rfl, rfl⟩), ren_ndV _ _ _, Keep.push _ _⟩
 simp -implicitDefEqProofs (disch := omega) only [seval, go_sem, hdl]
 refine c_kids hB hl hd 7 (dp := 1) (at_ := 0) (by omega) rfl (by omega) fun n hn => ?_
 cases n with
 | mk k ns ks d r s t =>
  rw [ndV_mk]
  simp -implicitDefEqProofs (disch := omega) only [seval, go_sem]
  refine ⟨_, resCell (id := S.n) rfl ti163 (push_self _ _) rfl rfl, ?_⟩
  exact ⟨_, _, hn, .refl _, ren_ndV _ _ (.mk k ns ks d r s t), Keep.push _ _⟩
def bsV (x : Bs) : TV := .sl .none 1 (dB x)
set_option maxRecDepth 8000 in
set_option maxHeartbeats 1000000 in
theorem c_Of6 {l : List Mk} (hl : l.length <= 40) (hd : ∀ m ∈ l, m.data.length <= 200) {g : Tag} {S : TS} {K : TV -> TS -> Prop} (hK : ∀ x : Bs, x.length <= 1000000 -> K (bsV x) S) :
 TCall env 59 [.sl g 6 (mkL l)] S K := by
 refine toPureXD (r := bsV) (Q := fun x => x.length <= 1000000) ?_ hK
 refine TCall.w 12 [.tmp 2] Tryz.func59 rfl rfl rfl rfl (by kernel_rfl) rfl ?_
 simp -implicitDefEqProofs (disch := omega) only [seval, go_sem]
 refine c_Make5 (B := 200) (by omega) hl hd fun n hn => ?_
 simp -implicitDefEqProofs (disch := omega) only [seval, go_sem]
 refine c_Write6 hn (by omega) (by omega) ?_
 simp -implicitDefEqProofs (disch := omega) only [seval, go_sem]
 exact ⟨(writeN n).1, _, Nat.le_trans (writeN_len hn) (by decide), .refl _, .slN _ _ _, Keep.refl _⟩
set_option maxRecDepth 8000 in
set_option maxHeartbeats 1000000 in
theorem c_Small5 {l : List Mk} (hl : l.length <= LIM) (hd : ∀ m ∈ l, m.data.length <= LIM) {g : Tag} {S : TS} {K : TV -> TS -> Prop} (hK : K (.lit (.bool (l.all (fun m => decide (m.data.length <= 200)) && decide ((l.length : Int) <= 60)))) S) :
 TCall env 57 [.sl g 6 (mkL l)] S K := by
 have hdl := mkL_len l
 have hl' : l.length <= 140737488355328 := hl
 refine TCall.w 20 [.tmp 2] Tryz.func57 rfl rfl rfl rfl (by kernel_rfl) rfl ?_
 simp -implicitDefEqProofs (disch := omega) only [seval, go_sem]
 refine loW_inv (fun n T S' => ∃ i : Nat, n + i = l.length /\ T 0 = .sl g 6 (mkL l) /\ T 3 = .lit (.int .i64 (i : Int)) /\ S' = S /\ (l.take i).all (fun m => decide (m.data.length <= 200)) = true) l.length ?_ ?_
 · exact ⟨0, rfl, rfl, rfl, rfl, rfl⟩
 rintro n T S2 ⟨i, hi, e0, e3, rfl, hall⟩
 simp -implicitDefEqProofs (disch := omega) only [seval, go_sem, e0, e3, hdl]
 refine cdK_d (fun hc => ?_) (fun hc => ?_)
 · have hlt : i < l.length := by omega
   have hx := mkL_get hlt
   have htk := take_succ_D l default hlt
   have hdm : (l.getD i default).data.length <= LIM := hd _ (getD_mem hlt)
   have hmem : l.getD i default ∈ l := getD_mem hlt
   generalize l.getD i default = m at *
   rw [mkD_mk] at hx
   have hdb := dB_len m.data
   simp -implicitDefEqProofs (disch := omega) only [seval, go_sem, e0, e3, hdl, hx, hdb]
   refine cdK_d (fun hc2 => ?_) (fun hc2 => ?_)
   · have : l.all (fun m => decide (m.data.length <= 200)) = false := by
      rw [List.all_eq_false]
      exact ⟨m, hmem, by simp; omega⟩
     rw [this] at hK
     simp -implicitDefEqProofs (disch := omega) only [seval, go_sem, e0, e3]
     exact hK
   · simp -implicitDefEqProofs (disch := omega) only [seval, go_sem, e0, e3]
     refine ⟨n - 1, by omega, i + 1, by omega, e0, rfl, rfl, ?_⟩
     rw [htk, List.all_append, hall]
     simp; omega
 · have : l.all (fun m => decide (m.data.length <= 200)) = true := by rw [← List.take_of_length_le (l := l) (i := i) (by omega)]; exact hall
   rw [this, Bool.true_and] at hK
   simp -implicitDefEqProofs (disch := omega) only [seval, go_sem, e0, e3, hdl]
   exact hK
def dBB (l : List Bs) : List D := l.map fun x => .sl 1 (dB x)
theorem dBB_len (l : List Bs) : (dBB l).length = l.length := List.length_map _
theorem dBB_app (a b : List Bs) : dBB (a ++ b) = dBB a ++ dBB b := List.map_append
theorem dBB_get {l : List Bs} {i : Nat} (h : i < l.length) : (dBB l).getD i default = .sl 1 (dB (l.getD i [])) := by
 rw [dBB, List.getD_eq_getElem?_getD, List.getElem?_map, List.getD_eq_getElem?_getD, List.getElem?_eq_getElem h]; rfl
def path0 : Bs := [UInt8.toBitVec 48, UInt8.toBitVec 49, UInt8.toBitVec 50, UInt8.toBitVec 51, UInt8.toBitVec 52, UInt8.toBitVec 53, UInt8.toBitVec 54, UInt8.toBitVec 55, UInt8.toBitVec 56, UInt8.toBitVec 57, UInt8.toBitVec 97, UInt8.toBitVec 98, UInt8.toBitVec 99, UInt8.toBitVec 100, UInt8.toBitVec 102, UInt8.toBitVec 103, UInt8.toBitVec 104, UInt8.toBitVec 105, UInt8.toBitVec 106, UInt8.toBitVec 107, UInt8.toBitVec 108, UInt8.toBitVec 109, UInt8.toBitVec 110, UInt8.toBitVec 112, UInt8.toBitVec 113, UInt8.toBitVec 114, UInt8.toBitVec 115, UInt8.toBitVec 118, UInt8.toBitVec 119, UInt8.toBitVec 120, UInt8.toBitVec 121, UInt8.toBitVec 122, UInt8.toBitVec 45, UInt8.toBitVec 110, UInt8.toBitVec 111]
def worldV (ars : List Bs) : TV := .agg [.sl .none 1 (gD fW), .sl .none 1 (gD kW), .sl .none 1 (dBB ars), .sl .none 1 (dT names3), .sl .none 1 (dT [path0])]
theorem worldV_mk (ars : List Bs) : worldV ars = .agg [.sl .none 1 (gD fW), .sl .none 1 (gD kW), .sl .none 1 (dBB ars), .sl .none 1 (dT names3), .sl .none 1 (dT [path0])] := rfl
theorem ren_worldV (n : Nat) (L : List Nat) (x : List Bs) : Ren n L (worldV x) (worldV x) :=
 .aggF (.cons (.sl0 _ _ _ (.inl rfl)) (.cons (.sl0 _ _ _ (.inl rfl)) (.cons (.sl0 _ _ _ (.inl rfl)) (.cons (.sl0 _ _ _ (.inl rfl)) (.cons (.sl0 _ _ _ (.inl rfl)) .nil)))))
def treeD (l : List Mk) : D := .sl 6 (mkL l)
def treeL (l : List (List Mk)) : List D := l.map treeD
theorem treeL_len (l : List (List Mk)) : (treeL l).length = l.length := List.length_map _
theorem treeL_get {l : List (List Mk)} {i : Nat} (h : i < l.length) : (treeL l).getD i default = .sl 6 (mkL (l.getD i [])) := by
 rw [treeL, List.getD_eq_getElem?_getD, List.getElem?_map, List.getD_eq_getElem?_getD, List.getElem?_eq_getElem h]; rfl
structure ArsB (l : List Bs) : Prop where
 ne : l ≠ []
 ll : l.length <= 5
 b : ∀ x ∈ l, x.length <= 1000000
set_option maxRecDepth 8000 in
set_option maxHeartbeats 1000000 in
theorem c_Begin {trees : List (List Mk)} (htl : trees.length <= LIM) (hl : ∀ t ∈ trees, t.length <= 40) (hd : ∀ t ∈ trees, ∀ m ∈ t, m.data.length <= 200) {g : Tag} {S : TS} {K : TV -> TS -> Prop} (hK : ∀ ars, ArsB ars -> K (worldV ars) S) :
 TCall env 15 [.sl g 1 (treeL trees)] S K := by
 refine toPureXD (r := worldV) (Q := ArsB) ?_ hK
 have hdl := treeL_len trees
 refine TCall.w 37 [.cell 2 35] Tryz.func15 rfl rfl rfl rfl (by kernel_rfl) rfl ?_
 simp -implicitDefEqProofs (disch := omega) only [seval, go_sem]
 refine c_New ?_
 simp -implicitDefEqProofs (disch := omega) only [seval, go_sem]
 have hb1 : ((S.push (.cells 35 [.sl .full 0 [], .sl .full 0 [], .sl .full 0 [], .sl .full 0 [], .sl .full 0 []])).push (.cells 35 [.sl .none 1 (gD fW), .sl .none 1 (gD kW), .sl .full 0 [], .sl .full 1 (dT names3), .sl .full 0 []])).objs (S.n + 1) = .cells 35 [.sl .none 1 (gD fW), .sl .none 1 (gD kW), .sl .full 0 [], .sl .full 1 (dT names3), .sl .full 0 []] := push_self (S.push _) _
 have hr1 : ((S.push (.cells 35 [.sl .full 0 [], .sl .full 0 [], .sl .full 0 [], .sl .full 0 [], .sl .full 0 []])).push (.cells 35 [.sl .none 1 (gD fW), .sl .none 1 (gD kW), .sl .full 0 [], .sl .full 1 (dT names3), .sl .full 0 []])).objs S.n = .cells 35 [.sl .full 0 [], .sl .full 0 [], .sl .full 0 [], .sl .full 0 [], .sl .full 0 []] := psh_old0 (push_self _ _) (Nat.lt_succ_self _)
 have hk1 : Keep S ((S.push (.cells 35 [.sl .full 0 [], .sl .full 0 [], .sl .full 0 [], .sl .full 0 [], .sl .full 0 []])).push (.cells 35 [.sl .none 1 (gD fW), .sl .none 1 (gD kW), .sl .full 0 [], .sl .full 1 (dT names3), .sl .full 0 []])) := (Keep.push _ _).push' _
 have hn1 : ((S.push (.cells 35 [.sl .full 0 [], .sl .full 0 [], .sl .full 0 [], .sl .full 0 [], .sl .full 0 []])).push (.cells 35 [.sl .none 1 (gD fW), .sl .none 1 (gD kW), .sl .full 0 [], .sl .full 1 (dT names3), .sl .full 0 []])).n = S.n + 2 := rfl
 rw [show [D.lit (Value.string (st [UInt8.toBitVec 97])), D.lit (Value.string (st [UInt8.toBitVec 98, UInt8.toBitVec 46, UInt8.toBitVec 99])), D.lit (Value.string (st [UInt8.toBitVec 108, UInt8.toBitVec 105, UInt8.toBitVec 98, UInt8.toBitVec 45, UInt8.toBitVec 49]))] = dT names3 from rfl]
 generalize ((S.push (.cells 35 [.sl .full 0 [], .sl .full 0 [], .sl .full 0 [], .sl .full 0 [], .sl .full 0 []])).push (.cells 35 [.sl .none 1 (gD fW), .sl .none 1 (gD kW), .sl .full 0 [], .sl .full 1 (dT names3), .sl .full 0 []])) = S1 at *
 refine loW.gh (Gh.rowCell 1 2 hb1 rfl) ?_
 refine loW_inv (fun n T S' => ∃ (i : Nat) (ars : List Bs) (k : Nat), n + i = trees.length /\ i <= 4 /\ ars.length = i /\ (∀ x ∈ ars, x.length <= 1000000) /\ T 0 = .sl g 1 (treeL trees) /\ T 2 = .ptr S.n 0 /\ T 3 = .ptr (S.n + 1) 0 /\ T 4 = .lit (.int .i64 (i : Int)) ∧
  S'.objs (S.n + 1) = .cells 35 [.sl .none 1 (gD fW), .sl .none 1 (gD kW), .sl (.own k) 1 (dBB ars), .sl .full 1 (dT names3), .sl .full 0 []] /\ S'.objs S.n = .cells 35 [.sl .full 0 [], .sl .full 0 [], .sl .full 0 [], .sl .full 0 [], .sl .full 0 []] /\ S'.objs k = .lin /\ S.n + 1 < k /\ k < S'.n /\ Keep S S') trees.length ?_ ?_
 · exact ⟨0, [], S1.n, rfl, by omega, rfl, (fun x h => by cases h), rfl, rfl, rfl, rfl, TS.set_same' _ _ _, (st_old _ (by omega)).trans (psh_old0 hr1 (by omega)), (st_old _ (by omega)).trans (push_self _ _), by omega, Nat.lt_succ_self _, (hk1.push' _).set (by omega) _⟩
 rintro n T S2 ⟨i, ars, k, hi, hi4, hal, hab, e0, e2, e3, e4, hb2, hr2, ho2, hk3, hn2, hk2⟩
 have hda := dBB_len ars
 have htl' : trees.length <= 140737488355328 := htl
 by_cases hc : i < trees.length /\ i < 4
 · obtain ⟨hc, hc4⟩ := hc
   have hx := treeL_get hc
   have hmem : trees.getD i [] ∈ trees := getD_mem hc
   have hxl := hl _ hmem
   have hxd := hd _ hmem
   generalize trees.getD i [] = t at *
   simp -implicitDefEqProofs (disch := omega) only [seval, go_sem, e0, e2, e3, e4, hdl, hb2, hx]
   refine drW_at [(0, 0), (1, 0), (2, 0), (3, 0), (4, 0), (5, 0), (6, 1), (7, 1), (8, 2), (9, 0), (10, 2)] followsN (by kernel_rfl) ?_
   simp -implicitDefEqProofs (disch := omega) only [seval, go_sem, e0, e2, e3, e4, hdl, hb2, hx]
   refine c_Of6 hxl hxd fun x hxb => ?_
   rw [bsV]
   simp -implicitDefEqProofs (disch := omega) only [seval, go_sem, e0, e2, e3, e4, hdl, hb2, hda, ho2]
   refine ⟨n - 1, by omega, i + 1, ars ++ [x], S2.n, by omega, by omega, by simp [hal], fun y hy => ?_, e0, e2, e3, rfl, ?_, psh_old0 ((st_old _ (by omega)).trans ((st_old _ (by omega)).trans hr2)) (by show S.n < S2.n; omega), push_self _ _, by omega, Nat.lt_succ_self _, (((hk2.set (by omega) _).set (by omega) _).push' _)⟩
   · rcases List.mem_append.1 hy with hy | hy
     · exact hab y hy
     · rw [List.mem_singleton.1 hy]; exact hxb
   · rw [dBB_app]
     exact psh_old0 (TS.set_same' _ _ _) (by show S.n + 1 < S2.n; omega)
 by_cases hc1 : i < trees.length
 · have hc4 : ¬ i < 4 := fun h => hc ⟨hc1, h⟩
   simp -implicitDefEqProofs (disch := omega) only [seval, go_sem, e0, e2, e3, e4, hdl, hb2]
   refine drW_at [(0, 0), (1, 0), (2, 1), (3, 1), (4, 2), (5, 0), (6, 2)] followsN (by kernel_rfl) ?_
   simp -implicitDefEqProofs (disch := omega) only [seval, go_sem, e0, e2, e3, e4, hdl, hb2, hda]
   refine .argL (.empty .nil) (c_Of6 (l := []) (g := .full) (by simp) (fun m h => by cases h) fun x hxb => ?_)
   rw [bsV]
   simp -implicitDefEqProofs (disch := omega) only [seval, go_sem, e0, e2, e3, e4, hdl, hb2, hda, ho2, hr2]
   refine ⟨_, resCell (id := S.n) e2 ti35 (psh_old0 (TS.set_same' _ _ _) (by show S.n < S2.n; omega)) rfl rfl, ?_⟩
   refine ⟨ars ++ [x], worldV (ars ++ [x]), ⟨by simp, by simp; omega, fun y hy => ?_⟩, ?_, ren_worldV _ _ _, ?_⟩
   · rcases List.mem_append.1 hy with hy | hy
     · exact hab y hy
     · rw [List.mem_singleton.1 hy]; exact hxb
   · rw [worldV_mk, dBB_app]
     exact .aggF (.cons (.refl _) (.cons (.refl _) (.cons (.sl _ _ _) (.cons (.sl _ _ _) (.cons (.sl _ _ _) .nil)))))
   · exact ((((hk2.set (by omega) _).set (by omega) _).set (by omega) _).set (Nat.le_refl _) _).push' _
 · simp -implicitDefEqProofs (disch := omega) only [seval, go_sem, e0, e2, e3, e4, hdl, hb2]
   refine drW_at [(0, 0), (1, 0), (2, 1), (3, 1), (4, 2), (5, 0), (6, 2)] followsN (by kernel_rfl) ?_
   simp -implicitDefEqProofs (disch := omega) only [seval, go_sem, e0, e2, e3, e4, hdl, hb2, hda]
   refine .argL (.empty .nil) (c_Of6 (l := []) (g := .full) (by simp) (fun m h => by cases h) fun x hxb => ?_)
   rw [bsV]
   simp -implicitDefEqProofs (disch := omega) only [seval, go_sem, e0, e2, e3, e4, hdl, hb2, hda, ho2, hr2]
   refine ⟨_, resCell (id := S.n) e2 ti35 (psh_old0 (TS.set_same' _ _ _) (by show S.n < S2.n; omega)) rfl rfl, ?_⟩
   refine ⟨ars ++ [x], worldV (ars ++ [x]), ⟨by simp, by simp; omega, fun y hy => ?_⟩, ?_, ren_worldV _ _ _, ?_⟩
   · rcases List.mem_append.1 hy with hy | hy
     · exact hab y hy
     · rw [List.mem_singleton.1 hy]; exact hxb
   · rw [worldV_mk, dBB_app]
     exact .aggF (.cons (.refl _) (.cons (.refl _) (.cons (.sl _ _ _) (.cons (.sl _ _ _) (.cons (.sl _ _ _) .nil)))))
   · exact ((((hk2.set (by omega) _).set (by omega) _).set (by omega) _).set (Nat.le_refl _) _).push' _
end Go.Proofs.YtoldjfappfbfbaaGreatDoor
namespace Go.Proofs.YtoldjfappfbfbaaGreatDoor
open Go.RowKit TL
structure ActM where
 do_ : BitVec 8
 a : BitVec 8
 b : BitVec 8
 more : BitVec 8
instance : Inhabited ActM := ⟨⟨0#8, 0#8, 0#8, 0#8⟩⟩
def actD (x : ActM) : D := .agg [.lit (w8 x.do_), .lit (w8 x.a), .lit (w8 x.b), .lit (w8 x.more)]
theorem actD_mk (x : ActM) : actD x = .agg [.lit (w8 x.do_), .lit (w8 x.a), .lit (w8 x.b), .lit (w8 x.more)] := rfl
def actL (l : List ActM) : List D := l.map actD
theorem actL_len (l : List ActM) : (actL l).length = l.length := List.length_map _
theorem actL_get {l : List ActM} {i : Nat} (h : i < l.length) : (actL l).getD i default = actD (l.getD i default) := by
 rw [actL, List.getD_eq_getElem?_getD, List.getElem?_map, List.getD_eq_getElem?_getD, List.getElem?_eq_getElem h]; rfl
structure PlanM where
 trees : List (List Mk)
 acts : List ActM
def planV (x : PlanM) : TV := .agg [.sl .none 1 (treeL x.trees), .sl .none 4 (actL x.acts)]
theorem planV_mk (x : PlanM) : planV x = .agg [.sl .none 1 (treeL x.trees), .sl .none 4 (actL x.acts)] := rfl
structure PlanB (x : PlanM) : Prop where
 tl : x.trees.length <= LIM
 ml : ∀ t ∈ x.trees, t.length <= LIM /\ ∀ m ∈ t, m.data.length <= LIM
 al : x.acts.length <= LIM
def shMade : Sh := .st [.u8, .u8, .u8, .sl .u8, .bool, .f64]
def shAct : Sh := .st [.u8, .u8, .u8, .u8]
def shPlan : List Sh := [.sl (.sl shMade), .sl shAct]
theorem fit_map {α : Type} {sh : Sh} {f : α -> D} {Q : α -> Prop} (h : ∀ d, Fit sh d -> ∃ a, d = f a /\ Q a) : ∀ l : List D, (∀ x ∈ l, Fit sh x) -> ∃ ys : List α, l = ys.map f /\ ∀ a ∈ ys, Q a
 | [], _ => ⟨[], rfl, fun a h => by cases h⟩
 | d :: l, hl => by
  obtain ⟨a, rfl, ha⟩ := h d (hl d (by simp))
  obtain ⟨ys, rfl, has⟩ := fit_map h l fun x hx => hl x (List.mem_cons_of_mem _ hx)
  exact ⟨a :: ys, rfl, fun b hb => by
   rcases List.mem_cons.1 hb with rfl | hb
   · exact ha
   · exact has b hb⟩
theorem fit_bytes {l : List D} (h : ∀ x ∈ l, Fit .u8 x) : ∃ bs : Bs, l = dB bs := by
 obtain ⟨bs, h1, _⟩ := fit_map (f := fun b : BitVec 8 => D.lit (w8 b)) (Q := fun _ => True) (sh := .u8) (fun d h => by
  rw [Fit] at h
  obtain ⟨b, hb⟩ := h
  exact ⟨b, hb, trivial⟩) l h
 exact ⟨bs, h1⟩
theorem fit_made (d : D) (h : Fit shMade d) : ∃ m, d = mkD m /\ m.data.length <= LIM := by
 rw [shMade, Fit] at h
 obtain ⟨l, rfl, h⟩ := h
 match l, h with
 | [d0, d1, d2, d3, d4, d5], h =>
  simp only [FitL, Fit] at h
  obtain ⟨⟨b0, rfl⟩, ⟨b1, rfl⟩, ⟨b2, rfl⟩, ⟨l3, hl3, rfl, h3⟩, ⟨b4, rfl⟩, ⟨b5, rfl⟩, _⟩ := h
  obtain ⟨bs, rfl⟩ := fit_bytes h3
  rw [dB_len] at hl3
  exact ⟨⟨b0, b1, b2, bs, b4, b5⟩, rfl, hl3⟩
theorem fit_act (d : D) (h : Fit shAct d) : ∃ x, d = actD x /\ True := by
 rw [shAct, Fit] at h
 obtain ⟨l, rfl, h⟩ := h
 match l, h with
 | [d0, d1, d2, d3], h =>
  simp only [FitL, Fit] at h
  obtain ⟨⟨b0, rfl⟩, ⟨b1, rfl⟩, ⟨b2, rfl⟩, ⟨b3, rfl⟩, _⟩ := h
  exact ⟨⟨b0, b1, b2, b3⟩, rfl, trivial⟩
theorem fit_tree (d : D) (h : Fit (.sl shMade) d) : ∃ t, d = treeD t /\ t.length <= LIM /\ ∀ m ∈ t, m.data.length <= LIM := by
 rw [Fit] at h
 obtain ⟨l, hl, rfl, h⟩ := h
 obtain ⟨ms, rfl, hm⟩ := fit_map fit_made l h
 rw [List.length_map] at hl
 exact ⟨ms, rfl, hl, hm⟩
theorem fit_acts (d : D) (h : Fit (.sl shAct) d) : ∃ xs : List ActM, d = .sl 4 (actL xs) /\ xs.length <= LIM := by
 rw [Fit] at h
 obtain ⟨l, hl, rfl, h⟩ := h
 obtain ⟨ms, rfl, hm⟩ := fit_map fit_act l h
 rw [List.length_map] at hl
 exact ⟨ms, rfl, hl⟩
theorem fit_plan {l : List D} (h : FitL shPlan l) : ∃ x, .agg (l.map tvD) = planV x /\ PlanB x := by
 match l, h with
 | [d0, d1], h =>
  rw [shPlan] at h
  simp only [FitL] at h
  obtain ⟨h00, h1, _⟩ := h
  rw [Fit] at h00
  obtain ⟨l0, hl0, rfl, h0⟩ := h00
  obtain ⟨xs, rfl, hx⟩ := fit_acts d1 h1
  obtain ⟨ts, rfl, ht⟩ := fit_map fit_tree l0 h0
  rw [List.length_map] at hl0
  exact ⟨⟨ts, xs⟩, rfl, hl0, ht, hx⟩
end Go.Proofs.YtoldjfappfbfbaaGreatDoor
namespace Go.Proofs.YtoldjfappfbfbaaGreatDoor
open Go.RowKit TL
def actV (x : ActM) : TV := .agg [.lit (w8 x.do_), .lit (w8 x.a), .lit (w8 x.b), .lit (w8 x.more)]
theorem actV_mk (x : ActM) : actV x = .agg [.lit (w8 x.do_), .lit (w8 x.a), .lit (w8 x.b), .lit (w8 x.more)] := rfl
def treeB (t : List Mk) : Bool := decide (t.length <= 8) && (t.all (fun m => decide (m.data.length <= 200)) && decide ((t.length : Int) <= 60))
def smallB (x : PlanM) : Bool := x.trees.all treeB && (decide ((x.trees.length : Int) <= 4) && decide ((x.acts.length : Int) <= 60))
structure PlanS (x : PlanM) : Prop where
 tl : x.trees.length <= 4
 ml : ∀ t ∈ x.trees, t.length <= 40
 dl : ∀ t ∈ x.trees, ∀ m ∈ t, m.data.length <= 200
 al : x.acts.length <= 60
theorem small_of {x : PlanM} (h : smallB x = true) : PlanS x := by
 unfold smallB at h
 simp only [Bool.and_eq_true, decide_eq_true_eq] at h
 have ht : ∀ t ∈ x.trees, t.length <= 8 /\ ∀ m ∈ t, m.data.length <= 200 := fun t ht => by
  have := List.all_eq_true.1 h.1 t ht
  unfold treeB at this
  simp only [Bool.and_eq_true, decide_eq_true_eq] at this
  exact ⟨this.1, fun m hm => by simpa using List.all_eq_true.1 this.2.1 m hm⟩
 exact ⟨by have := h.2.1; omega, fun t h' => Nat.le_trans (ht t h').1 (by decide), fun t h' => (ht t h').2, by have := h.2.2; omega⟩
def rowG (ars : List Bs) (made : List RowM) (x : ActM) : RowM :=
 ⟨(if 250 <= x.more.toNat then [UInt8.toBitVec 120] else []) ++ (if refsOk (riseL (refsM made x.b.toNat (x.more.toNat % 4))) = true then mkP (names3.getD (x.a.toNat % 3) []) (ars.getD (x.b.toNat % ars.length) []) (riseL (refsM made x.b.toNat (x.more.toNat % 4))) else []),
  names3.getD (x.a.toNat % 3) [], ars.getD (x.b.toNat % ars.length) [], riseL (refsM made x.b.toNat (x.more.toNat % 4))⟩
end Go.Proofs.YtoldjfappfbfbaaGreatDoor
namespace Go.Proofs.YtoldjfappfbfbaaGreatDoor
open Go.RowKit TL
theorem putF_cons (L : List RowM) (r : RowM) (l fr : List RowM) : putF L (r :: l) fr = if fitsR r = false then (4, fr)
 else if hasP (L ++ fr) r.path = true then putF L l fr
 else if r.refs.all (hasP (L ++ fr)) = false then (6, fr)
 else if 64 <= (L ++ fr).length then (3, fr)
 else putF L l (fr ++ [r]) := rfl
theorem putF_app (L : List RowM) : ∀ (a b fr : List RowM), (putF L a fr).1 = 0 -> putF L (a ++ b) fr = putF L b (putF L a fr).2
 | [], b, fr, _ => rfl
 | r :: a, b, fr, h => by
  rw [putF_cons] at h
  rw [List.cons_append, putF_cons L r (a ++ b) fr, putF_cons L r a fr]
  by_cases h1 : fitsR r = false
  · rw [if_pos h1] at h; cases h
  simp only [if_neg h1] at h ⊢
  by_cases h2 : hasP (L ++ fr) r.path = true
  · simp only [if_pos h2] at h ⊢
    exact putF_app L a b fr h
  simp only [if_neg h2] at h ⊢
  by_cases h3 : r.refs.all (hasP (L ++ fr)) = false
  · simp only [if_pos h3] at h; cases h
  simp only [if_neg h3] at h ⊢
  by_cases h4 : 64 <= (L ++ fr).length
  · simp only [if_pos h4] at h; cases h
  simp only [if_neg h4] at h ⊢
  exact putF_app L a b _ h
theorem putF_skip {L : List RowM} : ∀ (a : List RowM) {b fr : List RowM}, (∀ r ∈ a, fitsR r = true /\ hasP (L ++ fr) r.path = true) -> putF L (a ++ b) fr = putF L b fr
 | [], _, _, _ => rfl
 | r :: a, b, fr, h => by
  obtain ⟨h1, h2⟩ := h r (by simp)
  rw [List.cons_append]
  rw [putF_cons, if_neg (by rw [h1]; simp), if_pos h2]
  exact putF_skip a fun x hx => h x (List.mem_cons_of_mem _ hx)
theorem putF_shift (L fr0 : List RowM) : ∀ (b fr : List RowM), putF L b (fr0 ++ fr) = ((putF (L ++ fr0) b fr).1, fr0 ++ (putF (L ++ fr0) b fr).2)
 | [], fr => rfl
 | r :: b, fr => by
  rw [putF_cons, putF_cons, List.append_assoc L fr0 fr]
  split
  · rfl
  split
  · exact putF_shift L fr0 b fr
  split
  · rfl
  split
  · rfl
  rw [List.append_assoc]
  exact putF_shift L fr0 b (fr ++ [r])
theorem Chn.fit : ∀ {l : List RowM} {s : List Bs}, Chn s l -> ∀ r ∈ l, fitsR r = true
 | r :: l, s, h, x, hx => by
  rcases List.mem_cons.1 hx with rfl | hx
  · exact h.1
  · exact h.2.2.fit x hx
theorem MadeOk.two {l : List RowM} (h : MadeOk l) (hl : l.length <= 64) (k : Nat) : (putF (putF [] (l.take k) []).2 l []).1 = 0 /\ (putF [] (l.take k) []).2 ++ (putF (putF [] (l.take k) []).2 l []).2 = (putF [] l []).2 := by
 obtain ⟨a1, a2⟩ := (h.take k).onNil (by rw [List.length_take]; omega)
 have e1 : putF [] l [] = putF [] (l.drop k) (putF [] (l.take k) []).2 := by
  rw [← putF_app [] _ _ [] a1, List.take_append_drop]
 have e2 : putF (putF [] (l.take k) []).2 l [] = putF (putF [] (l.take k) []).2 (l.drop k) [] := by
  have := putF_skip (L := (putF [] (l.take k) []).2) (l.take k) (b := l.drop k) (fr := []) fun r hr => ⟨(h.take k).ch.fit r hr, by
   rw [List.append_nil]
   exact a2 _ (List.mem_map.2 ⟨r, hr, rfl⟩)⟩
  rwa [List.take_append_drop] at this
 have e3 := putF_shift [] (putF [] (l.take k) []).2 (l.drop k) []
 rw [List.append_nil, List.nil_append] at e3
 have e0 := (h.onNil hl).1
 rw [e1, e3] at e0
 rw [e2]
 refine ⟨e0, ?_⟩
 rw [e1, e3]
theorem putM_no (M : StM) (l : List RowM) {e : Int} (h : (putF M.L l []).1 = e) (he : e ≠ 0) : putM M l = (M, e) := by
 unfold putM
 rw [h, if_pos he]
theorem Inv.stb {M : StM} (h : Inv M) : StB M := ⟨h.rb, Nat.le_trans h.ll (by decide), Nat.le_trans h.rl (by decide), h.rpb, fun r hr => refs255 (h.wf.fit r hr)⟩
end Go.Proofs.YtoldjfappfbfbaaGreatDoor
