/-
  Lemmas of the claim, part 5: Ql Qm Qn Qo Qp Qq Qr Qs Qt Qu Qv Sa Ta Tb Rb Rc Rd Re Rf Tc Td Tf Sb TlLn TlLo Xa Xb Xc Xd Xe Xf Xg Xh Xi.
-/
import Derived.Test.YtlljknmojafkoaaGreatDoorMld
set_option linter.unusedVariables false
set_option linter.unusedSimpArgs false
namespace Go.Proofs.YtlljknmojafkoaaGreatDoor
open Go.RowKit TL
def backB (L : List RowM) : Bs → Bs → Bool := fun q p => L.any fun r => decide (r.path = p) && decide (q ∈ r.refs)
theorem backB_snoc (L : List RowM) (r : RowM) : backB (L ++ [r]) = linkB (backB L) r.refs r.path := by
  funext q p
  simp only [backB, linkB, List.any_append, List.any_cons, List.any_nil, Bool.or_false]
  rw [Bool.and_comm]
  by_cases h : r.path = p
  · subst h; simp
  · have : ¬ p = r.path := fun e => h e.symm
    simp [h, this]
theorem backB_iff (L : List RowM) (q p : Bs) : backB L q p = true ↔ ∃ r ∈ L, r.path = p ∧ q ∈ r.refs := by
  simp [backB]
/-- A store holds what the document's does. -/
def StOk (S : TS) (s : Nat) (I : StI) (M : StM) : Prop := StG S s I M.L [] (backB M.L) M.roots M.ver M.tc
theorem putF_sub (L : List RowM) : ∀ (l fr : List RowM), ∀ r ∈ (putF L l fr).2, r ∈ fr ∨ r ∈ l
  | [], fr, r, h => .inl h
  | x :: l, fr, r, h => by
    unfold putF at h
    have ih := putF_sub L l
    split at h
    · exact .inl h
    · split at h
      · rcases ih fr r h with h | h
        · exact .inl h
        · exact .inr (List.mem_cons_of_mem _ h)
      · split at h
        · exact .inl h
        · split at h
          · exact .inl h
          · rcases ih _ r h with h | h
            · rcases List.mem_append.1 h with h | h
              · exact .inl h
              · rw [List.mem_singleton.1 h]; exact .inr (by simp)
            · exact .inr (List.mem_cons_of_mem _ h)
theorem putF_len (L : List RowM) : ∀ (l fr : List RowM), (putF L l fr).2.length ≤ fr.length + l.length
  | [], fr => Nat.le_refl _
  | x :: l, fr => by
    unfold putF
    have ih := putF_len L l
    have h1 := ih fr
    have h2 := ih (fr ++ [x])
    simp only [List.length_append, List.length_cons, List.length_nil] at h2
    split
    · simp
    · split
      · simp only [List.length_cons]; omega
      · split
        · simp
        · split
          · simp
          · simp only [List.length_cons]; omega
theorem putF_nodup (L : List RowM) : ∀ (l fr : List RowM), (pathsOf (L ++ fr)).Nodup → (pathsOf (L ++ (putF L l fr).2)).Nodup
  | [], fr, h => h
  | x :: l, fr, h => by
    unfold putF
    have ih := putF_nodup L l
    split
    · exact h
    · split
      · exact ih fr h
      · rename_i hh
        split
        · exact h
        · split
          · exact h
          · refine ih _ ?_
            rw [← List.append_assoc]
            unfold pathsOf
            rw [List.map_append, List.nodup_append]
            refine ⟨h, by simp, fun a ha b hb => ?_⟩
            simp at hb
            subst hb
            intro e
            subst e
            exact hh ((hasP_iff _ _).2 ha)
theorem add64 (v : BitVec 64) : v + 1#64 = v + 1 := rfl
section
variable {S : TS} {s : Nat} {I : StI} {M : StM}
set_option maxRecDepth 8000 in
set_option maxHeartbeats 1000000 in
theorem c_Put {g : Tag} {sz : Nat} {l : List RowM} {K : TV → TS → Prop} (h : StOk S s I M) (hnd : (pathsOf M.L).Nodup) (hb : ∀ r ∈ l, RowB r) (hz : sz = 4 ∨ l = []) (hl : l.length ≤ 100000)
    (hK : ∀ S' I', StOk S' s I' (putM M l).1 → StTo S S' s I I' → K (.lit (.int .i64 (putM M l).2)) S') : TCall env 16 [.ptr s 0, .sl g sz (dR l)] S K := by
  have hfl := putF_len M.L l []
  have hnf := putF_nodup M.L l [] (by rw [List.append_nil]; exact hnd)
  have hfs := putF_sub M.L l []
  simp only [List.length_nil, Nat.zero_add] at hfl
  refine TCall.w 50 [.tmp 4] Tryz.func16 rfl rfl rfl rfl (by kernel_rfl) rfl ?_
  simp -implicitDefEqProofs (disch := omega) only [seval, go_sem]
  refine c_stage h hb hz hl fun S1 I1 v h1 t1 hv => ?_
  unfold putM at hK
  generalize putF M.L l [] = pr at *
  obtain ⟨e, fr⟩ := pr
  have hfl' : fr.length ≤ 100000 := Nat.le_trans hfl hl
  have hdf := dR_len fr
  have hs1 := h1.os
  simp only at h1 t1 hv hK hnf hfs
  simp -implicitDefEqProofs (disch := omega) only [seval, go_sem, hs1]
  refine cdK_d (fun hc => ?_) (fun hc => ?_)
  · rw [if_pos hc] at hK
    simp -implicitDefEqProofs (disch := omega) only [seval, go_sem, hs1]
    refine c_tab_Undo h1.tb hnf (by omega) fun S2 tb2 f2 => ?_
    obtain ⟨g2, t2⟩ := h1.setTab tb2 f2 (.inr rfl)
    simp -implicitDefEqProofs (disch := omega) only [seval, go_sem]
    exact hK S2 _ g2 (t1.trans t2)
  · have he : e = 0 := by simpa using hc
    subst he
    have hv' := hv rfl
    subst hv'
    rw [if_neg (by simp)] at hK
    simp -implicitDefEqProofs (disch := omega) only [seval, go_sem, hs1]
    refine c_tab_Done h1.tb fun S2 k2 tb2 f2 hk2 => ?_
    obtain ⟨g2, t2⟩ := h1.setTab tb2 f2 (.inl hk2)
    have hs2 := g2.os
    generalize hI2 : ({ I1 with k := k2 } : StI) = I2 at *
    simp -implicitDefEqProofs (disch := omega) only [seval, go_sem, hs2, hdf]
    refine cdK_d (fun hc2 => ?_) (fun hc2 => ?_)
    · have hfr : fr ≠ [] := fun e => by rw [e] at hc2; simp at hc2
      rw [if_neg hfr] at hK
      simp -implicitDefEqProofs (disch := omega) only [seval, go_sem, hs2, hdf]
      have g3 := g2.setVer (M.ver + 1#64)
      have t3 := StTo.own g2 (stF_s s I2) (.cells 94 [.ptr I2.tab 0, .mp I2.bk, .mp I2.rt, .mp I2.sm, .lit (w64 (M.ver + 1#64))])
      generalize S2.set s _ = S3 at *
      refine loW_inv (fun n T S4 => ∃ (i : Nat) (I4 : StI), n + i = fr.length ∧ T 0 = .ptr s 0 ∧ T 40 = .sl .none 4 (dR fr) ∧ T 41 = .lit (.int .i64 (fr.length : Int)) ∧ T 42 = .lit (.int .i64 (i : Int)) ∧
        StG S4 s I4 (M.L ++ fr) [] (backB (M.L ++ fr.take i)) M.roots (M.ver + 1#64) (M.tc ++ ((fr.take i).flatMap rowTouch).map fun p => (p, M.ver + 1#64)) ∧ StTo S3 S4 s I2 I4) fr.length ?_ ?_
      · exact ⟨0, I2, rfl, rfl, rfl, rfl, rfl, by simpa using g3, StTo.refl _ _ _⟩
      rintro n T S4 ⟨i, I4, hi, q0, q40, q41, q42, g4, t4⟩
      simp -implicitDefEqProofs (disch := omega) only [seval, go_sem, q0, q40, q41, q42, hdf]
      refine cdK_d (fun hc3 => ?_) (fun hc3 => ?_)
      · have hlt : i < fr.length := by omega
        have hx := dR_get hlt
        have htk := take_succ_D fr (i := i) default hlt
        have hrb : RowB (fr.getD i default) := hb _ ((hfs _ (getD_mem hlt)).resolve_left (by simp))
        generalize fr.getD i default = r at *
        rw [rowD_mk] at hx
        simp -implicitDefEqProofs (disch := omega) only [seval, go_sem, q0, q40, q41, q42, hdf, hx]
        refine c_link (r := r) (g4.push _) hrb fun S5 I5 g5 t5 => ?_
        simp -implicitDefEqProofs (disch := omega) only [seval, go_sem, q0, q40, q41, q42, hdf, hx]
        refine ⟨n - 1, by omega, i + 1, I5, by omega, q0, q40, q41, rfl, ?_, t4.trans (t5.of_push)⟩
        rw [htk, ← List.append_assoc, backB_snoc, List.flatMap_append, List.map_append, ← List.append_assoc]
        simpa using g5
      · have e : i = fr.length := by omega
        subst e
        rw [List.take_length] at g4
        simp -implicitDefEqProofs (disch := omega) only [seval, go_sem, q0, q40, q41, q42, hdf]
        exact hK S4 I4 g4 (((t1.trans t2).trans t3).trans t4)
    · have hfr : fr = [] := List.eq_nil_of_length_eq_zero (by omega)
      subst hfr
      simp -implicitDefEqProofs (disch := omega) only [seval, go_sem, hs2, hdf]
      refine loW_inv (fun n T S4 => T 41 = .lit (.int .i64 0) ∧ T 42 = .lit (.int .i64 0) ∧ S4 = S2) 0 ⟨rfl, rfl, rfl⟩ ?_
      rintro n T S4 ⟨q41, q42, rfl⟩
      simp -implicitDefEqProofs (disch := omega) only [seval, go_sem, q41, q42]
      rw [if_pos rfl] at hK
      refine hK _ I2 ?_ (t1.trans t2)
      rw [List.append_nil] at g2
      exact g2
end
end Go.Proofs.YtlljknmojafkoaaGreatDoor
namespace Go.Proofs.YtlljknmojafkoaaGreatDoor
open Go.RowKit TL
theorem SetOk.len {es : Ents} {clock : Nat} {ks : List Bs} {f : Bs → Bool} {l : List Bs} (mo : MapOk kS es clock ks) (hg : ∀ p, getM kS es p = if f p = true then some (.lit (.bool true)) else none) (hl : l.Nodup) (hf : ∀ p, p ∈ l ↔ f p = true) : es.length = l.length := by
  rw [mo.len]
  have h1 : ∀ x ∈ ks, x ∈ l := fun x hx => (hf x).2 ((SetOk.mem mo hg x).1 hx)
  have h2 : ∀ x ∈ l, x ∈ ks := fun x hx => (SetOk.mem mo hg x).2 ((hf x).1 hx)
  exact Nat.le_antisymm (nodup_len mo.nd h1) (nodup_len hl h2)
theorem SetOk.look {es : Ents} {f : Bs → Bool} (hg : ∀ p, getM kS es p = if f p = true then some (.lit (.bool true)) else none) (p : Bs) : lookT (.string (st p)) es (.lit (.bool false)) = .lit (.bool (f p)) := by
  show lookT (kS.v p) es _ = _
  rw [look_get, hg]
  cases f p <;> rfl
theorem SetOk.delT {S' : TS} {id : Nat} {f f' : Bs → Bool} {es : Ents} {clock : Nat} {ks : List Bs} {p : Bs} (mo : MapOk kS es clock ks) (hg : ∀ p, getM kS es p = if f p = true then some (.lit (.bool true)) else none)
    (ho : S'.objs id = .map (delE (kS.v p) es) clock) (hf : ∀ p', f' p' = (f p' && !decide (p' = p))) : SetOk S' id f' := by
  refine ⟨_, _, _, ho, mo.del p, fun p' => ?_⟩
  rw [mo.get_del, hg, hf]
  by_cases h : p' = p
  · subst h; simp
  · simp [h]
section
variable {S : TS} {s : Nat} {I : StI} {M : StM}
set_option maxRecDepth 8000 in
set_option maxHeartbeats 1000000 in
theorem c_Root {p : Bs} {K : TV → TS → Prop} (h : StOk S s I M) (hr : Ris M.roots)
    (hK : ∀ S', StOk S' s I (rootM M p).1 → StTo S S' s I I → K (.lit (.int .i64 (rootM M p).2)) S') : TCall env 19 [.ptr s 0, .lit (.string (st p))] S K := by
  obtain ⟨es, clock, ks, om, mo, hg⟩ := h.rt
  have hos := h.os
  have hkeys : keysOk .string es = true := mo.ok
  have hlk := SetOk.look hg p
  have hlen := SetOk.len mo hg (ris_nodup hr) (fun p => by simp)
  have hne := h.ne.s_rt
  unfold rootM at hK
  refine TCall.w 40 [.tmp 4] Tryz.func19 rfl rfl rfl rfl (by kernel_rfl) rfl ?_
  simp -implicitDefEqProofs (disch := omega) only [seval, go_sem]
  refine c_Has h ?_
  cases hh : hasP M.L p
  · rw [if_pos hh] at hK
    simp -implicitDefEqProofs (disch := omega) only [seval, go_sem]
    exact hK S h (StTo.refl _ _ _)
  · rw [if_neg (by rw [hh]; simp)] at hK
    simp -implicitDefEqProofs (disch := omega) only [seval, go_sem, hos, om, hkeys, keyB_str, lkT_f, hlk]
    refine cdK_d (fun hc => ?_) (fun hc => ?_)
    · rw [if_pos hc] at hK
      simp -implicitDefEqProofs (disch := omega) only [seval, go_sem]
      exact hK S h (StTo.refl _ _ _)
    · rw [if_neg hc] at hK
      simp -implicitDefEqProofs (disch := omega) only [seval, go_sem, hos, om, hkeys, keyB_str, lkT_f, hlk, hlen]
      refine cdK_d (fun hc2 => ?_) (fun hc2 => ?_)
      · rw [if_pos (by omega)] at hK
        simp -implicitDefEqProofs (disch := omega) only [seval, go_sem]
        exact hK S h (StTo.refl _ _ _)
      · rw [if_neg (by omega)] at hK
        simp -implicitDefEqProofs (disch := omega) only [seval, go_sem, hos, om, hkeys, keyB_str, lkT_f, hlk, hlen]
        have g1 := h.setRt (roots' := riseL (M.roots ++ [p])) (SetOk.putT (S' := S.set I.rt (.map (putE (kS.v p) (.lit (.bool true)) es clock) (clkE (kS.v p) es clock))) mo hg (TS.set_same' _ _ _) fun p' => by simp [riseL_mem])
        have t1 := StTo.own h (stF_rt s I) (.map (putE (kS.v p) (.lit (.bool true)) es clock) (clkE (kS.v p) es clock))
        have g2 := g1.setVer (M.ver + 1#64)
        have t2 := StTo.own g1 (stF_s s I) (.cells 94 [.ptr I.tab 0, .mp I.bk, .mp I.rt, .mp I.sm, .lit (w64 (M.ver + 1#64))])
        rw [dT_one]
        refine c_touchG g2 (fun S3 g3 t3 n3 => ?_) (.inl rfl) (by simp)
        simp -implicitDefEqProofs (disch := omega) only [seval, go_sem]
        exact hK S3 g3 ((t1.trans t2).trans t3)
end
end Go.Proofs.YtlljknmojafkoaaGreatDoor
namespace Go.Proofs.YtlljknmojafkoaaGreatDoor
open Go.RowKit TL
section
variable {S : TS} {s : Nat} {I : StI} {L : List RowM} {jd : List D} {B : Bs → Bs → Bool} {roots : List Bs} {ver : BitVec 64} {tc : List (Bs × BitVec 64)}
def delB (B : Bs → Bs → Bool) (q p : Bs) : Bs → Bs → Bool := fun q' p' => B q' p' && !(decide (q' = q) && decide (p' = p))
/-- One less refers to a path. -/
theorem StG.cutOld (h : StG S s I L jd B roots ver tc) {q p : Bs} {id : Nat} (hq : I.bf q = some id) {es : Ents} {clock : Nat} {ks : List Bs} (om : S.objs id = .map es clock) (mo : MapOk kS es clock ks) (hg : ∀ p, getM kS es p = if B q p = true then some (.lit (.bool true)) else none) :
    StG (S.set id (.map (delE (kS.v p) es) clock)) s I L jd (delB B q p) roots ver tc := by
  obtain ⟨b1, b2, b3, b4, b5, b6, b7⟩ := h.nb' hq
  refine ⟨(st_old _ (Ne.symm b1)).trans h.os, h.tb.fr (Nat.le_refl _) (fun j hj => st_old _ ?_), ⟨?_, fun q' id' hq' => ⟨?_, (h.bk.yes q' id' hq').2⟩, fun q' hq' p' => ?_, h.bk.inj⟩, h.rt.fr (st_old _ (Ne.symm b6)), ?_, h.lt, h.nd, h.nb⟩
  · rcases hj with e | e | e
    · rw [e]; exact Ne.symm b2
    · rw [e]; exact Ne.symm b3
    · rw [e]; exact Ne.symm b4
  · obtain ⟨es', c, ks', a, b, d⟩ := h.bk.om
    exact ⟨es', c, ks', (st_old _ (Ne.symm b5)).trans a, b, d⟩
  · by_cases e : q' = q
    · subst e
      rw [hq] at hq'
      cases hq'
      exact SetOk.delT mo hg (TS.set_same' _ _ _) fun p' => by simp [delB]
    · have hne : id' ≠ id := fun e2 => e (h.bk.inj _ _ id (by rw [hq', e2]) hq)
      have := (h.bk.yes q' id' hq').1.fr (S' := S.set id (.map (delE (kS.v p) es) clock)) (st_old _ hne)
      have hf : delB B q p q' = B q' := by funext p'; simp [delB, e]
      rw [hf]; exact this
  · simp [delB, h.bk.no q' hq' p']
  · obtain ⟨es', c, ks', a, b, d⟩ := h.sm
    exact ⟨es', c, ks', (st_old _ (Ne.symm b7)).trans a, b, d⟩
def cutB (B : Bs → Bs → Bool) (refs : List Bs) (p : Bs) : Bs → Bs → Bool := fun q' p' => B q' p' && !(decide (q' ∈ refs) && decide (p' = p))
theorem cutB_nil (B : Bs → Bs → Bool) (p : Bs) : cutB B [] p = B := by funext q p'; simp [cutB]
theorem cutB_snoc (B : Bs → Bs → Bool) (l : List Bs) (q p : Bs) : delB (cutB B l p) q p = cutB B (l ++ [q]) p := by
  funext q' p'
  simp only [delB, cutB, List.mem_append, List.mem_singleton]
  cases B q' p' <;> by_cases h1 : q' ∈ l <;> by_cases h2 : q' = q <;> by_cases h3 : p' = p <;> simp [h1, h2, h3]
set_option maxRecDepth 8000 in
set_option maxHeartbeats 1000000 in
theorem c_cut {p : Bs} {r : RowM} {K : TV → TS → Prop} (h : StG S s I L jd B roots ver tc) (hp : rowAt L p = some r) (hb : RowB r) (hj : jd.length ≤ 1000000)
    (hK : ∀ S' I' jd', StG S' s I' (dropP L p) jd' (cutB B r.refs p) roots ver (tc ++ (p :: r.refs).map fun q => (q, ver)) → StTo S S' s I I' → jd'.length = jd.length + 1 → K (.tup []) S') :
    TCall env 61 [.ptr s 0, .lit (.string (st p))] S K := by
  have hrl := hb.rl
  have hdl := dT_len r.refs
  have hh : hasP L p = true := by unfold hasP; rw [hp]; rfl
  have hro : rowO (some r) = .agg [.lit (.string (st r.path)), .lit (.string (st r.name)), .sl .none 1 (dB r.arc), .sl .none 1 (dT r.refs)] := rfl
  have hos0 := h.os
  refine TCall.w 43 [] Tryz.func61 rfl rfl rfl rfl (by kernel_rfl) rfl ?_
  simp -implicitDefEqProofs (disch := omega) only [seval, go_sem]
  refine c_row h ?_
  rw [hp, hh]
  simp -implicitDefEqProofs (disch := omega) only [seval, go_sem, hro, hos0, psh_old0 h.os h.lt.1]
  generalize hS0 : S.push _ = S0
  have hbx0 : S0.objs S.n = .cells 40 [.lit (.string (st r.path)), .lit (.string (st r.name)), .sl .none 1 (dB r.arc), .sl .none 1 (dT r.refs)] := by rw [← hS0]; exact push_self _ _
  have h0 : StG S0 s I L jd B roots ver tc := by rw [← hS0]; exact h.push _
  have hn0 : S0.n = S.n + 1 := by rw [← hS0]; rfl
  have hto0 : StTo S S0 s I I := by rw [← hS0]; exact (StTo.refl _ _ _).push _
  have hnb : ¬ stF s I S.n := fun hh => Nat.lt_irrefl _ (h.flt _ hh)
  refine c_tab_Drop h0.tb hp fun S1 k1 tb1 f1 hk1 => ?_
  obtain ⟨g1, t1⟩ := h0.setTab tb1 f1 (.inl hk1)
  generalize hI1 : ({ I with k := k1 } : StI) = I1 at *
  have hbx1 : S1.objs S.n = .cells 40 [.lit (.string (st r.path)), .lit (.string (st r.name)), .sl .none 1 (dB r.arc), .sl .none 1 (dT r.refs)] := t1.fr.old (by omega) hnb hbx0
  have hn1 := t1.fr.n
  have hnb1 := t1.not (by omega) hnb
  simp -implicitDefEqProofs (disch := omega) only [seval, go_sem, hbx1, hdl]
  refine loW_inv (fun n T S2 => ∃ (i : Nat), n + i = r.refs.length ∧ T 0 = .ptr s 0 ∧ T 1 = .lit (.string (st p)) ∧ T 4 = .ptr S.n 0 ∧ T 21 = .sl .none 1 (dT r.refs) ∧ T 22 = .lit (.int .i64 (r.refs.length : Int)) ∧ T 23 = .lit (.int .i64 (i : Int)) ∧
    StG S2 s I1 (dropP L p) (jd ++ [jE p (some r)]) (cutB B (r.refs.take i) p) roots ver tc ∧ StTo S1 S2 s I1 I1) r.refs.length ?_ ?_
  · exact ⟨0, rfl, rfl, rfl, rfl, rfl, rfl, rfl, by rw [List.take_zero, cutB_nil]; exact g1, StTo.refl _ _ _⟩
  rintro n T S2 ⟨i, hi, q0, q1, q4, q21, q22, q23, g2, t2⟩
  have hbx2 : S2.objs S.n = .cells 40 [.lit (.string (st r.path)), .lit (.string (st r.name)), .sl .none 1 (dB r.arc), .sl .none 1 (dT r.refs)] := t2.fr.old (by omega) hnb1 hbx1
  have hn2 := t2.fr.n
  have hos := g2.os
  obtain ⟨es, clock, ks, om, mo, hg⟩ := g2.bk.om
  have hkeys : keysOk .string es = true := mo.ok
  simp -implicitDefEqProofs (disch := omega) only [seval, go_sem, q0, q1, q4, q21, q22, q23, hdl]
  refine cdK_d (fun hc => ?_) (fun hc => ?_)
  · have hlt : i < r.refs.length := by omega
    have hx := dT_get hlt
    have htk := take_succ_D r.refs (i := i) [] hlt
    generalize r.refs.getD i [] = q at *
    cases hq : I1.bf q with
    | none =>
      have hlk : lookT (.string (st q)) es (.lit (.map none)) = .lit (.map none) := by
        show lookT (kS.v q) es _ = _
        rw [look_get, hg, hq]; rfl
      simp -implicitDefEqProofs (disch := omega) only [seval, go_sem, q0, q1, q4, q21, q22, q23, hdl, hx, hos, om, hkeys, keyB_str, lkT_f, hlk]
      refine ⟨n - 1, by omega, i + 1, by omega, q0, q1, q4, q21, q22, rfl, ?_, t2⟩
      rw [htk]
      have hno := g2.bk.no q hq
      have : cutB B (r.refs.take i ++ [q]) p = cutB B (r.refs.take i) p := by
        funext q' p'
        have h1 := hno p'
        by_cases e : q' = q
        · subst e
          by_cases e2 : p' = p
          · subst e2
            rw [h1]
            simp [cutB]
          · simp [cutB, e2]
        · simp [cutB, e]
      rw [this]; exact g2
    | some id =>
      obtain ⟨es2, clock2, ks2, om2, mo2, hg2⟩ := (g2.bk.yes q id hq).1
      have hkeys2 : keysOk .string es2 = true := mo2.ok
      have hlk : lookT (.string (st q)) es (.lit (.map none)) = .mp id := by
        show lookT (kS.v q) es _ = _
        rw [look_get, hg, hq]; rfl
      simp -implicitDefEqProofs (disch := omega) only [seval, go_sem, q0, q1, q4, q21, q22, q23, hdl, hx, hos, om, hkeys, keyB_str, lkT_f, hlk, om2, hkeys2]
      refine ⟨n - 1, by omega, i + 1, by omega, q0, q1, q4, q21, q22, rfl, ?_, t2.trans (.own g2 (.inr ⟨q, hq⟩) _)⟩
      rw [htk, ← cutB_snoc]
      exact g2.cutOld hq om2 mo2 hg2
  · have e : i = r.refs.length := by omega
    subst e
    rw [List.take_length] at g2
    simp -implicitDefEqProofs (disch := omega) only [seval, go_sem, q0, q1, q4, q21, q22, q23, hdl, hbx2]
    rw [dT_one]
    refine c_touchG g2 (fun S3 g3 t3 n3 => ?_) (.inl rfl) (by simp)
    have hbx3 : S3.objs S.n = .cells 40 [.lit (.string (st r.path)), .lit (.string (st r.name)), .sl .none 1 (dB r.arc), .sl .none 1 (dT r.refs)] := t3.fr.old (by omega) (t2.not (by omega) hnb1) hbx2
    simp -implicitDefEqProofs (disch := omega) only [seval, go_sem, q0, q1, q4, q21, q22, q23, hdl, hbx3]
    refine c_touchG g3 (fun S4 g4 t4 n4 => ?_) (.inl rfl)
    simp -implicitDefEqProofs (disch := omega) only [seval, go_sem]
    refine hK S4 I1 (jd ++ [jE p (some r)]) ?_ ((((hto0.trans t1).trans t2).trans t3).trans t4) (by rw [List.length_append]; rfl)
    rw [List.append_assoc, ← List.map_append] at g4
    exact g4
end
end Go.Proofs.YtlljknmojafkoaaGreatDoor
namespace Go.Proofs.YtlljknmojafkoaaGreatDoor
open Go.RowKit TL
theorem rowAt_of_mem {L : List RowM} (hnd : (pathsOf L).Nodup) {r : RowM} (hr : r ∈ L) : rowAt L r.path = some r := by
  induction L with
  | nil => cases hr
  | cons x L ih =>
    unfold rowAt
    rw [List.find?_cons]
    unfold pathsOf at hnd
    rw [List.map_cons, List.nodup_cons] at hnd
    rcases List.mem_cons.1 hr with e | hr
    · subst e; rw [decide_eq_true rfl]
    · have hne : x.path ≠ r.path := fun e => hnd.1 (by rw [e]; exact List.mem_map.2 ⟨r, hr, rfl⟩)
      rw [decide_eq_false hne]
      exact ih hnd.2 hr
theorem backB_drop {L : List RowM} (hnd : (pathsOf L).Nodup) {p : Bs} {r : RowM} (hp : rowAt L p = some r) : backB (dropP L p) = cutB (backB L) r.refs p := by
  funext q' p'
  obtain ⟨h1, h2⟩ := rowAt_path hp
  rw [Bool.eq_iff_iff]
  simp only [cutB, Bool.and_eq_true, Bool.not_eq_true', Bool.and_eq_false_iff, decide_eq_false_iff_not, backB_iff, dropP, List.mem_filter, decide_eq_true_eq]
  constructor
  · rintro ⟨x, ⟨hx, hxp⟩, hp', hq⟩
    exact ⟨⟨x, hx, hp', hq⟩, .inr fun e => hxp (by rw [hp', e])⟩
  · rintro ⟨⟨x, hx, hp', hq⟩, h⟩
    refine ⟨x, ⟨hx, fun e => ?_⟩, hp', hq⟩
    have : some x = some r := by rw [← rowAt_of_mem hnd hx, e, hp]
    injection this with this
    subst this
    rcases h with h | h
    · exact h hq
    · exact h (by rw [← hp', e])
theorem find_born {es : Ents} (h : (es.map (·.2.1)).Nodup) {j : Nat} {e : Value × Nat × TV} (hj : es[j]? = some e) : es.find? (fun x => x.2.1 == e.2.1) = some e := by
  induction es generalizing j with
  | nil => cases hj
  | cons x es ih =>
    rw [List.map_cons, List.nodup_cons] at h
    rw [List.find?_cons]
    cases j with
    | zero => simp at hj; subst hj; simp
    | succ j =>
      simp at hj
      have hm : e ∈ es := List.mem_of_getElem? hj
      have hne : ¬ x.2.1 = e.2.1 := fun e2 => h.1 (by rw [e2]; exact List.mem_map.2 ⟨e, hm, rfl⟩)
      rw [beq_eq_false_iff_ne.2 hne]
      exact ih h.2 hj
theorem filter_lt {α : Type} {l : List α} {p p' : α → Bool} {e : α} (he : e ∈ l) (h1 : p e = true) (h2 : p' e = false) (h : ∀ x, p' x = true → p x = true) : (l.filter p').length < (l.filter p).length := by
  induction l with
  | nil => cases he
  | cons x l ih =>
    rw [List.filter_cons, List.filter_cons]
    have hle : (l.filter p').length ≤ (l.filter p).length := by
      clear ih he
      induction l with
      | nil => exact Nat.le_refl _
      | cons y l ih2 =>
        rw [List.filter_cons, List.filter_cons]
        cases hy : p' y with
        | true => rw [h y hy]; simpa using ih2
        | false =>
          cases p y
          · simpa using ih2
          · simp; omega
    rcases List.mem_cons.1 he with e1 | he
    · subst e1
      rw [h1, h2]
      simp; omega
    · have := ih he
      cases hx : p' x with
      | true => rw [h x hx]; simpa using this
      | false =>
        cases p x
        · simpa using this
        · simp; omega
theorem last_snoc (l : List Nat) (x : Nat) : (l ++ [x]).getLast? = some x := by simp
theorem cutM_one (M : StM) {p : Bs} {r : RowM} (hnd : (pathsOf M.L).Nodup) (hp : rowAt M.L p = some r) : cutM M [p] = { L := dropP M.L p, roots := M.roots, ver := M.ver + 1#64, tc := M.tc ++ (p :: r.refs).map fun q => (q, M.ver + 1#64) } := by
  obtain ⟨h1, h2⟩ := rowAt_path hp
  have hf : (M.L.filter fun r => decide (r.path ∈ [p])) = [r] := by
    have : ∀ (L : List RowM), (pathsOf L).Nodup → rowAt L p = some r → (L.filter fun r => decide (r.path ∈ [p])) = [r] := by
      intro L
      induction L with
      | nil => intro _ h; cases h
      | cons x L ih =>
        intro hnd hp
        unfold pathsOf at hnd
        rw [List.map_cons, List.nodup_cons] at hnd
        unfold rowAt at hp
        rw [List.find?_cons] at hp
        rw [List.filter_cons]
        by_cases e : x.path = p
        · rw [decide_eq_true e] at hp
          injection hp with hp
          subst hp
          rw [if_pos (by simp [e])]
          congr 1
          apply List.filter_eq_nil_iff.2
          intro y hy
          simp only [List.mem_singleton, decide_eq_true_eq]
          intro e2
          exact hnd.1 (by rw [e, ← e2]; exact List.mem_map.2 ⟨y, hy, rfl⟩)
        · rw [decide_eq_false e] at hp
          rw [if_neg (by simp [e])]
          exact ih hnd.2 hp
    exact this M.L hnd hp
  have hd : (M.L.filter fun r => !decide (r.path ∈ [p])) = dropP M.L p := by
    unfold dropP
    apply List.filter_congr
    intro x _
    simp
  unfold cutM touchM
  rw [hf, hd]
  simp only [List.flatMap_cons, List.flatMap_nil, List.append_nil, rowTouch, h1]
section
variable {S : TS} {s : Nat} {I : StI} {M : StM}
theorem without_nil {L : List RowM} {p : Bs} : withoutL (referrersL L p) p = [] ↔ ∀ q, backB L p q = true → q = p := by
  unfold withoutL
  rw [List.filter_eq_nil_iff]
  constructor
  · intro h q hq
    obtain ⟨r, hr, h1, h2⟩ := (backB_iff L p q).1 hq
    have := h q (by rw [referrersL, riseL_mem]; exact List.mem_map.2 ⟨r, List.mem_filter.2 ⟨hr, by simpa using h2⟩, h1⟩)
    simpa using this
  · intro h q hq
    rw [referrersL, riseL_mem] at hq
    obtain ⟨r, hr, h1⟩ := List.mem_map.1 hq
    obtain ⟨hr, h2⟩ := List.mem_filter.1 hr
    have := h q ((backB_iff L p q).2 ⟨r, hr, h1, by simpa using h2⟩)
    simpa using this
set_option maxRecDepth 8000 in
set_option maxHeartbeats 1000000 in
theorem c_Delete {p : Bs} {K : TV → TS → Prop} (h : StOk S s I M) (hnd : (pathsOf M.L).Nodup) (hb : ∀ r ∈ M.L, RowB r)
    (hK : ∀ S' I', StOk S' s I' (deleteM M p).1 → StTo S S' s I I' → K (.lit (.int .i64 (deleteM M p).2)) S') : TCall env 44 [.ptr s 0, .lit (.string (st p))] S K := by
  have hos := h.os
  obtain ⟨es, clock, ks, om, mo, hg⟩ := h.bk.om
  have hkeys : keysOk .string es = true := mo.ok
  obtain ⟨esr, cr, kr, omr, mor, hgr⟩ := h.rt
  have hkeysr : keysOk .string esr = true := mor.ok
  have hlkr := SetOk.look hgr p
  unfold deleteM at hK
  refine TCall.w 45 [.tmp 4] Tryz.func44 rfl rfl rfl rfl (by kernel_rfl) rfl ?_
  simp -implicitDefEqProofs (disch := omega) only [seval, go_sem]
  refine c_Has h ?_
  cases hh : hasP M.L p
  · rw [if_pos hh] at hK
    simp -implicitDefEqProofs (disch := omega) only [seval, go_sem]
    exact hK S I h (StTo.refl _ _ _)
  · rw [if_neg (by rw [hh]; simp)] at hK
    obtain ⟨r, hp⟩ : ∃ r, rowAt M.L p = some r := Option.isSome_iff_exists.1 hh
    have hrb := hb r (rowAt_path hp).2
    cases hq : I.bf p with
    | none =>
      have hlk : lookT (.string (st p)) es (.lit (.map none)) = .lit (.map none) := by
        show lookT (kS.v p) es _ = _
        rw [look_get, hg, hq]; rfl
      simp -implicitDefEqProofs (disch := omega) only [seval, go_sem, hos, om, hkeys, keyB_str, lkT_f, hlk]
      refine loW_inv (fun n T S1 => T 0 = .ptr s 0 ∧ T 1 = .lit (.string (st p)) ∧ T 16 = .ptr S.n 0 ∧ S1 = S.push (.iter none 0 [] 0)) 0 ⟨rfl, rfl, rfl, rfl⟩ ?_
      rintro n T S1 ⟨q0, q1, q16, hS1⟩
      have hit : S1.objs S.n = .iter none 0 [] 0 := by rw [hS1]; exact push_self _ _
      have g1 : StOk S1 s I M := by rw [hS1]; exact StG.push h _
      have t1 : StTo S S1 s I I := by rw [hS1]; exact (StTo.refl _ _ _).push _
      have hom1 : S1.objs I.rt = .map esr cr := by rw [hS1]; exact psh_old0 omr h.lt.2.2.1
      have hall : ∀ q, backB M.L p q = true → q = p := fun q hb => by rw [h.bk.no p hq] at hb; cases hb
      simp -implicitDefEqProofs (disch := omega) only [seval, go_sem, q0, q1, q16, hit]
      by_cases hr : p ∈ M.roots
      · rw [if_pos (.inl hr)] at hK
        rw [decide_eq_true hr] at hlkr
        simp -implicitDefEqProofs (disch := omega) only [seval, go_sem, q0, q1, g1.os, hom1, hkeysr, keyB_str, lkT_f, hlkr]
        exact hK S1 I g1 t1
      · rw [if_neg (by rintro (h | h); exact hr h; exact h (without_nil.2 hall))] at hK
        rw [decide_eq_false hr] at hlkr
        simp -implicitDefEqProofs (disch := omega) only [seval, go_sem, q0, q1, g1.os, hom1, hkeysr, keyB_str, lkT_f, hlkr]
        have g2 := g1.setVer (M.ver + 1#64)
        have t2 := StTo.own g1 (stF_s s I) (.cells 94 [.ptr I.tab 0, .mp I.bk, .mp I.rt, .mp I.sm, .lit (w64 (M.ver + 1#64))])
        refine c_cut g2 hp hrb (by simp) fun S3 I3 jd3 g3 t3 _ => ?_
        simp -implicitDefEqProofs (disch := omega) only [seval, go_sem, q0, q1, g3.os]
        refine c_tab_Done g3.tb fun S4 k4 tb4 f4 hk4 => ?_
        obtain ⟨g4, t4⟩ := g3.setTab tb4 f4 (.inl hk4)
        simp -implicitDefEqProofs (disch := omega) only [seval, go_sem]
        refine hK S4 _ ?_ (((t1.trans t2).trans t3).trans t4)
        rw [cutM_one M hnd hp]
        unfold StOk
        rw [backB_drop hnd hp]
        exact g4
    | some id =>
      obtain ⟨es2, clock2, ks2, om2, mo2, hg2⟩ := (h.bk.yes p id hq).1
      have hidl := (h.bk.yes p id hq).2
      have hlk : lookT (.string (st p)) es (.lit (.map none)) = .mp id := by
        show lookT (kS.v p) es _ = _
        rw [look_get, hg, hq]; rfl
      simp -implicitDefEqProofs (disch := omega) only [seval, go_sem, hos, om, hkeys, keyB_str, lkT_f, hlk, om2]
      refine loW_inv (fun n T S1 => ∃ seen : List Nat, T 0 = .ptr s 0 ∧ T 1 = .lit (.string (st p)) ∧ T 16 = .ptr S.n 0 ∧ S1 = S.push (.iter (some id) clock2 seen clock2) ∧ (∀ e ∈ es2, e.2.1 ∈ seen → e.1 = kS.v p) ∧ n = (es2.filter fun e => !decide (e.2.1 ∈ seen)).length) es2.length ?_ ?_
      · refine ⟨[], rfl, rfl, rfl, rfl, (fun e _ h => by simp at h), ?_⟩
        rw [List.filter_eq_self.2 (by simp)]
      rintro n T S1 ⟨seen, q0, q1, q16, hS1, hsn, hn⟩
      have hit : S1.objs S.n = .iter (some id) clock2 seen clock2 := by rw [hS1]; exact push_self _ _
      have g1 : StOk S1 s I M := by rw [hS1]; exact StG.push h _
      have t1 : StTo S S1 s I I := by rw [hS1]; exact (StTo.refl _ _ _).push _
      have hom1 : S1.objs I.rt = .map esr cr := by rw [hS1]; exact psh_old0 omr h.lt.2.2.1
      have hid1 : S1.objs id = .map es2 clock2 := by rw [hS1]; exact psh_old0 om2 hidl
      simp -implicitDefEqProofs (disch := omega) only [seval, go_sem, q0, q1, q16, hit, hid1]
      have hnb : ¬ stF s I S.n := fun hh => Nat.lt_irrefl _ (StG.flt h _ hh)
      refine ⟨mo2.born, fun j e hj hne => ?_, fun hall0 => ?_⟩
      · have hem : e ∈ es2 := List.mem_of_getElem? hj
        obtain ⟨q, hqk, he⟩ : ∃ q ∈ ks2, kS.v q = e.1 := by
          have : e.1 ∈ ks2.map kS.v := by rw [← mo2.keys]; exact List.mem_map.2 ⟨e, hem, rfl⟩
          exact List.mem_map.1 this
        have he' : e.1 = .string (st q) := he.symm
        have hlast := last_snoc seen e.2.1
        have hfind := find_born mo2.bnd hj
        have hBq : backB M.L p q = true := (SetOk.mem mo2 hg2 q).1 hqk
        simp only [hlast, hfind]
        simp -implicitDefEqProofs (disch := omega) only [seval, go_sem, q0, q1, q16, hit, hid1, he']
        refine cdK_d (fun hc => ?_) (fun hc => ?_)
        · rw [if_pos (.inr fun e => hc (without_nil.1 e q hBq))] at hK
          simp -implicitDefEqProofs (disch := omega) only [seval, go_sem]
          exact hK _ I (StG.setOut g1 hnb _) (t1.set (Nat.le_refl _) _)
        · have hqp : q = p := by simpa using hc
          simp -implicitDefEqProofs (disch := omega) only [seval, go_sem]
          refine ⟨(es2.filter fun x => !decide (x.2.1 ∈ seen ++ [e.2.1])).length, ?_, seen ++ [e.2.1], q0, q1, q16, by rw [hS1, push_set], fun x hx hxs => ?_, rfl⟩
          · rw [hn]
            exact filter_lt hem (by simpa using hne) (by simp) fun x hx => by
              simp only [List.mem_append, List.mem_singleton, not_or, Bool.not_eq_true', decide_eq_false_iff_not] at hx ⊢
              exact hx.1
          · rcases List.mem_append.1 hxs with h1 | h1
            · exact hsn x hx h1
            · obtain ⟨jx, hjx⟩ := List.mem_iff_getElem?.1 hx
              have h2 := find_born mo2.bnd hjx
              rw [List.mem_singleton.1 h1, hfind] at h2
              injection h2 with h2
              rw [← h2, he', hqp]; rfl
      · have hall : ∀ q, backB M.L p q = true → q = p := fun q hb => by
          have hqk := (SetOk.mem mo2 hg2 q).2 hb
          have : kS.v q ∈ es2.map (·.1) := by rw [mo2.keys]; exact List.mem_map.2 ⟨q, hqk, rfl⟩
          obtain ⟨e, he, h1⟩ := List.mem_map.1 this
          have h2 := hsn e he (hall0 e he)
          rw [h1] at h2
          exact (kS.eq q p).1 (by rw [h2]; exact (kS.eq p p).2 rfl)
        by_cases hr : p ∈ M.roots
        · rw [if_pos (.inl hr)] at hK
          rw [decide_eq_true hr] at hlkr
          simp -implicitDefEqProofs (disch := omega) only [seval, go_sem, q0, q1, g1.os, hom1, hkeysr, keyB_str, lkT_f, hlkr]
          exact hK S1 I g1 t1
        · rw [if_neg (by rintro (h | h); exact hr h; exact h (without_nil.2 hall))] at hK
          rw [decide_eq_false hr] at hlkr
          simp -implicitDefEqProofs (disch := omega) only [seval, go_sem, q0, q1, g1.os, hom1, hkeysr, keyB_str, lkT_f, hlkr]
          have g2 := g1.setVer (M.ver + 1#64)
          have t2 := StTo.own g1 (stF_s s I) (.cells 94 [.ptr I.tab 0, .mp I.bk, .mp I.rt, .mp I.sm, .lit (w64 (M.ver + 1#64))])
          refine c_cut g2 hp hrb (by simp) fun S3 I3 jd3 g3 t3 _ => ?_
          simp -implicitDefEqProofs (disch := omega) only [seval, go_sem, q0, q1, g3.os]
          refine c_tab_Done g3.tb fun S4 k4 tb4 f4 hk4 => ?_
          obtain ⟨g4, t4⟩ := g3.setTab tb4 f4 (.inl hk4)
          simp -implicitDefEqProofs (disch := omega) only [seval, go_sem]
          refine hK S4 _ ?_ (((t1.trans t2).trans t3).trans t4)
          rw [cutM_one M hnd hp]
          unfold StOk
          rw [backB_drop hnd hp]
          exact g4
end
end Go.Proofs.YtlljknmojafkoaaGreatDoor
namespace Go.Proofs.YtlljknmojafkoaaGreatDoor
open Go.RowKit TL
def muL (L : List RowM) (sn : List Bs) : Nat := ((L.filter fun r => !decide (r.path ∈ sn)).map fun r => r.refs.length + 1).sum
theorem muL_le (p : Bs) (sn : List Bs) : ∀ (L : List RowM), muL L (p :: sn) ≤ muL L sn
  | [] => Nat.le_refl _
  | x :: L => by
    have ih := muL_le p sn L
    unfold muL at ih ⊢
    rw [List.filter_cons, List.filter_cons]
    by_cases h1 : x.path ∈ sn
    · rw [if_neg (by simp [h1]), if_neg (by simp [h1])]; exact ih
    · rw [if_pos (by simp [h1] : (!decide (x.path ∈ sn)) = true)]
      by_cases h2 : x.path = p
      · rw [if_neg (by simp [h2])]; simp only [List.map_cons, List.sum_cons]; omega
      · rw [if_pos (by simp [h1, h2])]; simp only [List.map_cons, List.sum_cons]; omega
theorem muL_new (sn : List Bs) {r : RowM} (hn : r.path ∉ sn) : ∀ (L : List RowM), r ∈ L → muL L (r.path :: sn) + (r.refs.length + 1) ≤ muL L sn
  | [], h => by cases h
  | x :: L, h => by
    have hle := muL_le r.path sn L
    rcases List.mem_cons.1 h with e | h
    · subst e
      unfold muL at hle ⊢
      rw [List.filter_cons, List.filter_cons, if_neg (by simp), if_pos (by simp [hn])]
      simp only [List.map_cons, List.sum_cons]; omega
    · have ih := muL_new sn hn L h
      unfold muL at ih ⊢
      rw [List.filter_cons, List.filter_cons]
      by_cases h1 : x.path ∈ sn
      · rw [if_neg (by simp [h1]), if_neg (by simp [h1])]; exact ih
      · rw [if_pos (by simp [h1] : (!decide (x.path ∈ sn)) = true)]
        by_cases h2 : x.path = r.path
        · rw [if_neg (by simp [h2])]; simp only [List.map_cons, List.sum_cons]; omega
        · rw [if_pos (by simp [h1, h2])]; simp only [List.map_cons, List.sum_cons]; omega
/-- What holds between two rounds: what was seen, what is to be looked at. -/
structure RchI (L : List RowM) (from_ sn todo : List Bs) : Prop where
  s : ∀ p ∈ sn, Rch L from_ p
  t : ∀ p ∈ todo, p ∈ from_ ∨ ∃ q ∈ sn, p ∈ refsOf L q
  a : ∀ p ∈ from_, hasP L p = true → p ∈ sn ∨ p ∈ todo
  b : ∀ q ∈ sn, ∀ p ∈ refsOf L q, hasP L p = true → p ∈ sn ∨ p ∈ todo
theorem RchI.start (L : List RowM) (from_ : List Bs) : RchI L from_ [] from_ := ⟨fun p h => (by cases h), fun p h => .inl h, fun p h _ => .inr h, fun q h => by cases h⟩
theorem RchI.skip {L : List RowM} {from_ sn todo : List Bs} {p : Bs} (h : RchI L from_ sn (todo ++ [p])) (hp : hasP L p = false ∨ p ∈ sn) : RchI L from_ sn todo := by
  have key : ∀ x, hasP L x = true → x ∈ sn ∨ x ∈ todo ++ [p] → x ∈ sn ∨ x ∈ todo := by
    intro x hx hh
    rcases hh with hh | hh
    · exact .inl hh
    · rcases List.mem_append.1 hh with hh | hh
      · exact .inr hh
      · rw [List.mem_singleton.1 hh] at hx ⊢
        rcases hp with hp | hp
        · rw [hp] at hx; cases hx
        · exact .inl hp
  exact ⟨h.s, fun x hx => h.t x (List.mem_append_left _ hx), fun x hx hh => key x hh (h.a x hx hh), fun q hq x hx hh => key x hh (h.b q hq x hx hh)⟩
theorem RchI.take {L : List RowM} {from_ sn todo : List Bs} {p : Bs} (h : RchI L from_ sn (todo ++ [p])) (hp : hasP L p = true) : RchI L from_ (p :: sn) (todo ++ refsOf L p) := by
  have hr : Rch L from_ p := by
    rcases h.t p (by simp) with h1 | ⟨q, hq, h1⟩
    · exact .base h1 hp
    · exact .step (h.s q hq) h1 hp
  refine ⟨fun x hx => ?_, fun x hx => ?_, fun x hx hh => ?_, fun q hq x hx hh => ?_⟩
  · rcases List.mem_cons.1 hx with e | hx
    · rw [e]; exact hr
    · exact h.s x hx
  · rcases List.mem_append.1 hx with hx | hx
    · rcases h.t x (List.mem_append_left _ hx) with h1 | ⟨q, hq, h1⟩
      · exact .inl h1
      · exact .inr ⟨q, List.mem_cons_of_mem _ hq, h1⟩
    · exact .inr ⟨p, by simp, hx⟩
  · rcases h.a x hx hh with h1 | h1
    · exact .inl (List.mem_cons_of_mem _ h1)
    · rcases List.mem_append.1 h1 with h1 | h1
      · exact .inr (List.mem_append_left _ h1)
      · rw [List.mem_singleton.1 h1]; exact .inl (by simp)
  · rcases List.mem_cons.1 hq with e | hq
    · subst e; exact .inr (List.mem_append_right _ hx)
    · rcases h.b q hq x hx hh with h1 | h1
      · exact .inl (List.mem_cons_of_mem _ h1)
      · rcases List.mem_append.1 h1 with h1 | h1
        · exact .inr (List.mem_append_left _ h1)
        · rw [List.mem_singleton.1 h1]; exact .inl (by simp)
theorem RchI.done {L : List RowM} {from_ sn : List Bs} (h : RchI L from_ sn []) (p : Bs) : p ∈ sn ↔ p ∈ reachL L from_ := by
  rw [(reachL_ok L from_).2 p]
  refine ⟨h.s p, fun hr => ?_⟩
  induction hr with
  | base hf hp => exact (h.a _ hf hp).resolve_right (by simp)
  | step _ hq hp ih => exact (h.b _ ih _ hq hp).resolve_right (by simp)
section
variable {S : TS} {s : Nat} {I : StI} {L : List RowM} {jd : List D} {B : Bs → Bs → Bool} {roots : List Bs} {ver : BitVec 64} {tc : List (Bs × BitVec 64)}
set_option maxRecDepth 8000 in
set_option maxHeartbeats 1000000 in
theorem c_reach {g : Tag} {sz : Nat} {l : List Bs} {K : TV → TS → Prop} (h : StG S s I L jd B roots ver tc) (hz : sz = 1 ∨ l = []) (hN : l.length + muL L [] ≤ 1000000)
    (hK : ∀ S' m, SetOk S' m (fun p => decide (p ∈ reachL L l)) → S.n ≤ m → m < S'.n → Keep S S' → K (.mp m) S') : TCall env 60 [.ptr s 0, .sl g sz (dT l)] S K := by
  refine TCall.w 47 [.tmp 4] Tryz.func60 rfl rfl rfl rfl (by kernel_rfl) rfl ?_
  simp -implicitDefEqProofs (disch := omega) only [seval, go_sem]
  refine c_Clone_TV ?_ hz
  simp -implicitDefEqProofs (disch := omega) only [seval, go_sem]
  refine loW_inv (fun n T S1 => ∃ (sn todo : List Bs) (kt : Nat), n = todo.length + muL L sn ∧ n ≤ 1000000 ∧ T 0 = .ptr s 0 ∧ T 5 = .mp S.n ∧ T 6 = .vs kt 0 1 todo.length ∧ S1.objs kt = .cells 9 (cellsD (dT todo)) ∧ S.n < kt ∧ kt < S1.n ∧
    SetOk S1 S.n (fun p => decide (p ∈ sn)) ∧ Keep S S1 ∧ RchI L l sn todo) (l.length + muL L []) ?_ ?_
  · refine ⟨[], l, S.n + 1, rfl, hN, rfl, rfl, rfl, push_self (S.push _) _, Nat.lt_succ_self _, Nat.lt_succ_self _, ?_, (Keep.push _ _).push' _, RchI.start L l⟩
    exact ⟨[], 0, [], psh_old0 (push_self _ _) (Nat.lt_succ_self _), MapOk.nil, fun p => by simp [getM_nil]⟩
  rintro n T S1 ⟨sn, todo, kt, hn, hnN, q0, q5, q6, hkt, hk1, hk2, ⟨es, clock, ks, om, mo, hg⟩, hkp, hI⟩
  have hst : StG S1 s I L jd B roots ver tc := h.fr hkp.1 fun id hid => hkp.2 id (h.flt id hid)
  have hkeys : keysOk .string es = true := mo.ok
  have hns := hkp.1
  simp -implicitDefEqProofs (disch := omega) only [seval, go_sem, q0, q5, q6]
  refine cdK_d (fun hc => ?_) (fun hc => ?_)
  · obtain ⟨todo, p, rfl⟩ : ∃ t p, todo = t ++ [p] := by
      rcases List.eq_nil_or_concat todo with e | ⟨t, p, e⟩
      · rw [e] at hc; simp at hc
      · exact ⟨t, p, by simpa using e⟩
    have hlen : (todo ++ [p]).length = todo.length + 1 := by simp
    have hcl : (cellsD (dT (todo ++ [p]))).length = todo.length + 1 := by rw [cT_len]; simp
    have hget : (cellsD (dT (todo ++ [p]))).getD todo.length .unk = .lit (.string (st p)) := by
      rw [cT_get (by simp)]; simp
    have hsl : tvSlice 1 (.vs kt 0 1 (todo.length + 1)) none (some (todo.length : Int)) none = some (.vs kt 0 1 todo.length) := by
      simp [tvSlice]
      omega
    simp -implicitDefEqProofs (disch := omega) only [seval, go_sem, q0, q5, q6, hkt, hlen, hcl, hget, hsl]
    have hnk : ¬ stF s I kt := fun hh => by have := h.flt _ hh; omega
    refine TCall.gh0 (Gh.trunc hkt todo.length) ?_
    have hctk : (cellsD (dT (todo ++ [p]))).take todo.length = cellsD (dT todo) := by rw [cT_take]; simp
    rw [hctk]
    have hkt2 := TS.set_same' S1 kt (.cells 9 (cellsD (dT todo)))
    have hst2 := hst.setOut hnk (.cells 9 (cellsD (dT todo)))
    have om2 : (S1.set kt (.cells 9 (cellsD (dT todo)))).objs S.n = .map es clock := (st_old _ (by omega)).trans om
    have hkp2 : Keep S (S1.set kt (.cells 9 (cellsD (dT todo)))) := hkp.set (by omega) _
    have hn2 : (S1.set kt (.cells 9 (cellsD (dT todo)))).n = S1.n := rfl
    generalize S1.set kt (.cells 9 (cellsD (dT todo))) = S2 at *
    rw [hlen] at hn
    refine c_row hst2 ?_
    cases hp : rowAt L p with
    | none =>
      have hh : hasP L p = false := by unfold hasP; rw [hp]; rfl
      have hro : rowO none = .agg [.lit (.string (st [])), .lit (.string (st [])), .sl .full 0 [], .sl .full 0 []] := rfl
      rw [hh]
      simp -implicitDefEqProofs (disch := omega) only [seval, go_sem, q0, q5, hro]
      exact ⟨n - 1, by omega, sn, todo, kt, by omega, by omega, q0, q5, rfl, psh_old0 hkt2 (by omega), hk1, by rw [TS.push_n]; omega, ⟨es, clock, ks, psh_old0 om2 (by omega), mo, hg⟩, hkp2.push' _, hI.skip (.inl hh)⟩
    | some r =>
      have hh : hasP L p = true := by unfold hasP; rw [hp]; rfl
      have hro : rowO (some r) = .agg [.lit (.string (st r.path)), .lit (.string (st r.name)), .sl .none 1 (dB r.arc), .sl .none 1 (dT r.refs)] := rfl
      have hlk := SetOk.look hg p
      have hrf : refsOf L p = r.refs := by unfold refsOf; rw [hp]
      obtain ⟨hrp, hrm⟩ := rowAt_path hp
      rw [hh]
      by_cases hs : p ∈ sn
      · rw [decide_eq_true hs] at hlk
        simp -implicitDefEqProofs (disch := omega) only [seval, go_sem, q0, q5, hro, psh_old0 om2 (by omega), om2, hkeys, keyB_str, lkT_f, hlk]
        exact ⟨n - 1, by omega, sn, todo, kt, by omega, by omega, q0, q5, rfl, psh_old0 hkt2 (by omega), hk1, by rw [TS.push_n]; omega, ⟨es, clock, ks, psh_old0 om2 (by omega), mo, hg⟩, hkp2.push' _, hI.skip (.inr hs)⟩
      · rw [decide_eq_false hs] at hlk
        have hmu := muL_new sn (r := r) (by rw [hrp]; exact hs) L hrm
        have hdl := dT_len r.refs
        have hct := cT_len todo
        rw [hrp] at hmu
        simp -implicitDefEqProofs (disch := omega) only [seval, go_sem, q0, q5, hro, om2, hkeys, keyB_str, lkT_f, hlk, hkt2, hdl, hct]
        refine ⟨(todo ++ r.refs).length + muL L (p :: sn), by simp; omega, p :: sn, todo ++ r.refs, S2.n + 1, rfl, by simp; omega, q0, q5, by rw [List.length_append]; rfl, push_self (TS.push _ _) _, by omega, Nat.lt_succ_self _, ?_, (((hkp2.set (Nat.le_refl _) _).set (by omega) _).push' _).push' _, by rw [← hrf]; exact hI.take hh⟩
        refine SetOk.putT (p := p) mo hg (psh_old0 (S := TS.push _ _) (psh_old0 (S := TS.set _ _ _) ((st_old _ (by omega)).trans (TS.set_same' _ _ _)) (by show S.n < S2.n; omega)) (by show S.n < S2.n + 1; omega)) fun p' => ?_
        by_cases e : p' = p <;> simp [e]
  · have e : todo = [] := List.eq_nil_of_length_eq_zero (by omega)
    subst e
    simp -implicitDefEqProofs (disch := omega) only [seval, go_sem, q0, q5, q6]
    refine hK S1 S.n ?_ (Nat.le_refl _) (by omega) hkp
    have hf : (fun p => decide (p ∈ reachL L l)) = fun p => decide (p ∈ sn) := by funext p; exact decide_eq_decide.2 (hI.done p).symm
    rw [hf]
    exact ⟨es, clock, ks, om, mo, hg⟩
theorem muL_bound {L : List RowM} (hL : L.length ≤ 1000) (hr : ∀ r ∈ L, r.refs.length ≤ 255) : muL L [] ≤ 256 * L.length := by
  unfold muL
  rw [List.filter_eq_self.2 (by simp)]
  clear hL
  induction L with
  | nil => exact Nat.le_refl _
  | cons x L ih =>
    have h1 := hr x (by simp)
    have h2 := ih fun r hm => hr r (List.mem_cons_of_mem _ hm)
    simp only [List.map_cons, List.sum_cons, List.length_cons]
    omega
end
end Go.Proofs.YtlljknmojafkoaaGreatDoor
namespace Go.Proofs.YtlljknmojafkoaaGreatDoor
open Go.RowKit TL
theorem ris_filter {l : List Bs} (h : Ris l) (f : Bs → Bool) : Ris (l.filter f) := h.filter f
theorem rowAt_filter_no (L : List RowM) (g : List Bs) {p : Bs} (hp : p ∉ g) : rowAt (L.filter fun r => !decide (r.path ∈ g)) p = rowAt L p := by
  unfold rowAt
  induction L with
  | nil => rfl
  | cons x L ih =>
    rw [List.filter_cons]
    by_cases h : x.path ∈ g
    · rw [if_neg (by simp [h]), ih, List.find?_cons, decide_eq_false (show ¬ x.path = p from fun e => hp (by rw [← e]; exact h))]
    · rw [if_pos (by simp [h]), List.find?_cons, List.find?_cons, ih]
theorem dropP_filter (L : List RowM) (g : List Bs) (p : Bs) : dropP (L.filter fun r => !decide (r.path ∈ g)) p = L.filter fun r => !decide (r.path ∈ g ++ [p]) := by
  unfold dropP
  rw [List.filter_filter]
  apply List.filter_congr
  intro x _
  by_cases h1 : x.path ∈ g <;> by_cases h2 : x.path = p <;> simp [h1, h2]
theorem nodup_paths_filter {L : List RowM} (h : (pathsOf L).Nodup) (f : RowM → Bool) : (pathsOf (L.filter f)).Nodup := h.sublist (List.Sublist.map _ List.filter_sublist)
section
variable {S : TS} {s : Nat} {I : StI} {M : StM}
theorem StG.tcEq {L : List RowM} {jd : List D} {B : Bs → Bs → Bool} {roots : List Bs} {ver : BitVec 64} {tc tc' : List (Bs × BitVec 64)} (h : StG S s I L jd B roots ver tc) (e : ∀ p, stampT tc' p = stampT tc p) : StG S s I L jd B roots ver tc' :=
  ⟨h.os, h.tb, h.bk, h.rt, let ⟨es, c, ks, a, b, d⟩ := h.sm; ⟨es, c, ks, a, b, fun p => by rw [d, e]⟩, h.lt, h.nd, h.nb⟩
theorem touch_mem {L : List RowM} (hnd : (pathsOf L).Nodup) {gone : List Bs} (hg : ∀ p ∈ gone, p ∈ pathsOf L) (x : Bs) : x ∈ (gone.flatMap fun p => p :: refsOf L p) ↔ x ∈ (L.filter fun r => decide (r.path ∈ gone)).flatMap rowTouch := by
  rw [List.mem_flatMap, List.mem_flatMap]
  constructor
  · rintro ⟨p, hp, hx⟩
    obtain ⟨r, hr, e⟩ := List.mem_map.1 (hg p hp)
    have h1 := rowAt_of_mem hnd hr
    rw [e] at h1
    refine ⟨r, List.mem_filter.2 ⟨hr, by rw [e]; simpa using hp⟩, ?_⟩
    have h2 : refsOf L p = r.refs := by unfold refsOf; rw [h1]
    rw [h2] at hx
    rw [rowTouch, e]; exact hx
  · rintro ⟨r, hr, hx⟩
    obtain ⟨hr, h1⟩ := List.mem_filter.1 hr
    refine ⟨r.path, by simpa using h1, ?_⟩
    have h2 : refsOf L r.path = r.refs := by unfold refsOf; rw [rowAt_of_mem hnd hr]
    rw [h2]; exact hx
set_option maxRecDepth 8000 in
set_option maxHeartbeats 1000000 in
theorem c_Sweep {K : TV → TS → Prop} (h : StOk S s I M) (hnd : (pathsOf M.L).Nodup) (hb : ∀ r ∈ M.L, RowB r) (hr : Ris M.roots) (hrl : M.roots.length ≤ 100000) (hrb : ∀ p ∈ M.roots, p.length ≤ 100000) (hLl : M.L.length ≤ 100000) (hN : M.roots.length + muL M.L [] ≤ 1000000)
    (hK : ∀ S' I', StOk S' s I' (sweepM M).1 → StTo S S' s I I' → K (.sl .none 1 (dT (sweepM M).2)) S') : TCall env 20 [.ptr s 0] S K := by
  refine TCall.dgR ?_
  have hpl : (pathsOf M.L).length = M.L.length := by simp [pathsOf]
  have hpb : ∀ p ∈ pathsOf M.L, p.length ≤ 1000000 := fun p hp => by
    obtain ⟨r, hr, e⟩ := List.mem_map.1 hp
    have := (hb r hr).pt
    rw [e] at this; omega
  have hrl2 := riseL_len (pathsOf M.L)
  refine TCall.w 57 [.tmp 2] Tryz.func20 rfl rfl rfl rfl (by kernel_rfl) rfl ?_
  simp -implicitDefEqProofs (disch := omega) only [seval, go_sem]
  refine c_Roots h hr (by omega) (fun p hp => by have := hrb p hp; omega) ?_
  simp -implicitDefEqProofs (disch := omega) only [seval, go_sem]
  refine c_reach h (.inl rfl) hN fun S1 m hm hm1 hm2 hk1 => ?_
  have g1 : StG S1 s I M.L [] (backB M.L) M.roots M.ver M.tc := StG.fr h hk1.1 fun id hid => hk1.2 id (StG.flt h id hid)
  have hn1 := hk1.1
  simp -implicitDefEqProofs (disch := omega) only [seval, go_sem]
  refine c_Paths g1 (by omega) hpb ?_
  have hdl := dT_len (riseL (pathsOf M.L))
  simp -implicitDefEqProofs (disch := omega) only [seval, go_sem, hdl]
  refine loW.asRow 4 1 rfl (.inl rfl) ?_
  generalize hps : riseL (pathsOf M.L) = ps at *
  refine loW_inv (fun n T S2 => ∃ (i kg : Nat), n + i = ps.length ∧ T 0 = .ptr s 0 ∧ T 3 = .mp m ∧ T 14 = .sl .none 1 (dT ps) ∧ T 15 = .lit (.int .i64 (ps.length : Int)) ∧ T 16 = .lit (.int .i64 (i : Int)) ∧ T 4 = .sl (.own kg) 1 (dT ((ps.take i).filter fun p => !decide (p ∈ reachL M.L M.roots))) ∧
    S2.objs kg = .lin ∧ S1.n ≤ kg ∧ kg < S2.n ∧ Keep S1 S2) ps.length ?_ ?_
  · exact ⟨0, S1.n, rfl, rfl, rfl, rfl, rfl, rfl, rfl, push_self _ _, Nat.le_refl _, Nat.lt_succ_self _, Keep.push _ _⟩
  rintro n T S2 ⟨i, kg, hi, q0, q3, q14, q15, q16, q4, hkg, hkg1, hkg2, hk2⟩
  have hm' : SetOk S2 m fun p => decide (p ∈ reachL M.L M.roots) := hm.fr (hk2.2 m hm2)
  obtain ⟨es, clock, ks, om, mo, hg⟩ := hm'
  have hkeys : keysOk .string es = true := mo.ok
  have hn2 := hk2.1
  simp -implicitDefEqProofs (disch := omega) only [seval, go_sem, q0, q3, q14, q15, q16, q4]
  refine cdK_d (fun hc => ?_) (fun hc => ?_)
  · have hlt : i < ps.length := by omega
    have hx := dT_get hlt
    have htk := take_succ_D ps (i := i) [] hlt
    generalize ps.getD i [] = p at *
    have hlk := SetOk.look hg p
    have hfl : ((ps.take i).filter fun p => !decide (p ∈ reachL M.L M.roots)).length ≤ i := Nat.le_trans (List.length_filter_le _ _) (by simp; omega)
    have hdf := dT_len ((ps.take i).filter fun p => !decide (p ∈ reachL M.L M.roots))
    by_cases hp : p ∈ reachL M.L M.roots
    · rw [decide_eq_true hp] at hlk
      simp -implicitDefEqProofs (disch := omega) only [seval, go_sem, q0, q3, q14, q15, q16, q4, hdl, hx, om, hkeys, keyB_str, lkT_f, hlk]
      refine ⟨n - 1, by omega, i + 1, kg, by omega, q0, q3, q14, q15, rfl, ?_, hkg, hkg1, hkg2, hk2⟩
      have e4 : (ps.take (i + 1)).filter (fun p => !decide (p ∈ reachL M.L M.roots)) = (ps.take i).filter fun p => !decide (p ∈ reachL M.L M.roots) := by
        rw [htk, List.filter_append]
        simp [hp]
      rw [e4]; exact q4
    · rw [decide_eq_false hp] at hlk
      simp -implicitDefEqProofs (disch := omega) only [seval, go_sem, q0, q3, q14, q15, q16, q4, hdl, hx, om, hkeys, keyB_str, lkT_f, hlk, hkg, hdf]
      refine ⟨n - 1, by omega, i + 1, S2.n, by omega, q0, q3, q14, q15, rfl, ?_, push_self _ _, by omega, Nat.lt_succ_self _, (hk2.set hkg1 _).push' _⟩
      rw [htk, List.filter_append]
      simp only [List.filter_cons, List.filter_nil, hp, decide_false, Bool.not_false, if_true]
      rw [dT_app]; rfl
  · have e : i = ps.length := by omega
    subst e
    rw [List.take_length] at q4
    have hgl : (ps.filter fun p => !decide (p ∈ reachL M.L M.roots)).length ≤ ps.length := List.length_filter_le _ _
    have hgm : ∀ p, p ∈ (ps.filter fun p => !decide (p ∈ reachL M.L M.roots)) ↔ p ∈ (pathsOf M.L).filter fun p => !decide (p ∈ reachL M.L M.roots) := fun p => by
      rw [List.mem_filter, List.mem_filter, ← hps, riseL_mem]
    have hgr : Ris (ps.filter fun p => !decide (p ∈ reachL M.L M.roots)) := ris_filter (by rw [← hps]; exact riseL_ris _) _
    have hge : riseL ((pathsOf M.L).filter fun p => !decide (p ∈ reachL M.L M.roots)) = ps.filter fun p => !decide (p ∈ reachL M.L M.roots) := ris_ext (riseL_ris _) hgr fun y => by rw [riseL_mem, hgm]
    have hgs : ∀ p ∈ (ps.filter fun p => !decide (p ∈ reachL M.L M.roots)), p ∈ pathsOf M.L := fun p hp => (List.mem_filter.1 ((hgm p).1 hp)).1
    have hnil : (pathsOf M.L).filter (fun p => !decide (p ∈ reachL M.L M.roots)) = [] ↔ ps.filter (fun p => !decide (p ∈ reachL M.L M.roots)) = [] := by
      constructor
      · intro e; rw [List.eq_nil_iff_forall_not_mem]; intro p hp; have := (hgm p).1 hp; rw [e] at this; cases this
      · intro e; rw [List.eq_nil_iff_forall_not_mem]; intro p hp; have := (hgm p).2 hp; rw [e] at this; cases this
    unfold sweepM at hK
    rw [hge] at hK
    simp only [hnil] at hK
    have hcut : ∀ r ∈ M.L, (decide (r.path ∈ (pathsOf M.L).filter fun p => !decide (p ∈ reachL M.L M.roots))) = decide (r.path ∈ ps.filter fun p => !decide (p ∈ reachL M.L M.roots)) := fun r _ => decide_eq_decide.2 (hgm r.path).symm
    have hcm : cutM M ((pathsOf M.L).filter fun p => !decide (p ∈ reachL M.L M.roots)) = cutM M (ps.filter fun p => !decide (p ∈ reachL M.L M.roots)) := by
      unfold cutM
      rw [List.filter_congr (fun r hr => by rw [hcut r hr]), List.filter_congr hcut]
    rw [hcm] at hK
    generalize ps.filter (fun p => !decide (p ∈ reachL M.L M.roots)) = gone at *
    have hdg := dT_len gone
    have g2 : StG S2 s I M.L [] (backB M.L) M.roots M.ver M.tc := g1.fr hk2.1 fun id hid => hk2.2 id (g1.flt id hid)
    have t2 : StTo S S2 s I I := ⟨(hk1.frm _).trans (hk2.frm _) fun x hx => .inl hx, fun id h => .inl h⟩
    have hs2 := g2.os
    simp -implicitDefEqProofs (disch := omega) only [seval, go_sem, q0, q3, q14, q15, q16, q4, hs2, hdg]
    refine cdK_d (fun hc2 => ?_) (fun hc2 => ?_)
    · have hne : gone ≠ [] := fun e => by rw [e] at hc2; simp at hc2
      rw [if_neg hne] at hK
      simp -implicitDefEqProofs (disch := omega) only [seval, go_sem, q0, q3, q14, q15, q16, q4, hs2, hdg]
      have g3 := g2.setVer (M.ver + 1#64)
      have t3 := StTo.own g2 (stF_s s I) (.cells 94 [.ptr I.tab 0, .mp I.bk, .mp I.rt, .mp I.sm, .lit (w64 (M.ver + 1#64))])
      generalize S2.set s _ = S3 at *
      have hgnd := ris_nodup hgr
      have hf0 : (M.L.filter fun r => !decide (r.path ∈ gone.take 0)) = M.L := List.filter_eq_self.2 (by simp)
      refine loW_inv (fun n T S4 => ∃ (i : Nat) (I4 : StI) (jd4 : List D), n + i = gone.length ∧ T 0 = .ptr s 0 ∧ T 4 = .sl (.own kg) 1 (dT gone) ∧ T 39 = .sl (.own kg) 1 (dT gone) ∧ T 40 = .lit (.int .i64 (gone.length : Int)) ∧ T 41 = .lit (.int .i64 (i : Int)) ∧ jd4.length = i ∧
        StG S4 s I4 (M.L.filter fun r => !decide (r.path ∈ gone.take i)) jd4 (backB (M.L.filter fun r => !decide (r.path ∈ gone.take i))) M.roots (M.ver + 1#64) (M.tc ++ ((gone.take i).flatMap fun p => p :: refsOf M.L p).map fun p => (p, M.ver + 1#64)) ∧ StTo S3 S4 s I I4) gone.length ?_ ?_
      · refine ⟨0, I, [], rfl, q0, q4, rfl, rfl, rfl, rfl, ?_, StTo.refl _ _ _⟩
        rw [hf0]
        simp only [List.take_zero, List.flatMap_nil, List.map_nil, List.append_nil]
        exact g3
      rintro n T S4 ⟨i, I4, jd4, hi, r0, r4, r39, r40, r41, hj4, g4, t4⟩
      have hs4 := g4.os
      simp -implicitDefEqProofs (disch := omega) only [seval, go_sem, r0, r4, r39, r40, r41, hdg]
      refine cdK_d (fun hc3 => ?_) (fun hc3 => ?_)
      · have hlt : i < gone.length := by omega
        have hx := dT_get hlt
        have htk := take_succ_D gone (i := i) [] hlt
        have hpg : gone.getD i [] ∈ gone := getD_mem hlt
        have hpn : gone.getD i [] ∉ gone.take i := by
          have h1 := hgnd.sublist (List.take_sublist (i + 1) gone)
          rw [htk, List.nodup_append] at h1
          intro hm
          exact h1.2.2 _ hm _ (by simp) rfl
        generalize gone.getD i [] = p at *
        obtain ⟨r, hrL, hrp⟩ := List.mem_map.1 (hgs p hpg)
        have hrow0 := rowAt_of_mem hnd hrL
        rw [hrp] at hrow0
        have hrow : rowAt (M.L.filter fun r => !decide (r.path ∈ gone.take i)) p = some r := by rw [rowAt_filter_no _ _ hpn]; exact hrow0
        have hrefs : refsOf M.L p = r.refs := by unfold refsOf; rw [hrow0]
        simp -implicitDefEqProofs (disch := omega) only [seval, go_sem, r0, r4, r39, r40, r41, hdg, hx]
        refine c_cut g4 hrow (hb r hrL) (by omega) fun S5 I5 jd5 g5 t5 hj5 => ?_
        simp -implicitDefEqProofs (disch := omega) only [seval, go_sem, r0, r4, r39, r40, r41, hdg, hx]
        refine ⟨n - 1, by omega, i + 1, I5, jd5, by omega, r0, r4, r39, r40, rfl, by omega, ?_, t4.trans t5⟩
        rw [← backB_drop (nodup_paths_filter hnd _) hrow, dropP_filter, ← htk] at g5
        rw [htk, List.flatMap_append, List.map_append, ← List.append_assoc]
        rw [htk] at g5
        simpa [hrefs] using g5
      · have e : i = gone.length := by omega
        subst e
        rw [List.take_length] at g4
        simp -implicitDefEqProofs (disch := omega) only [seval, go_sem, r0, r4, r39, r40, r41, hdg, hs4]
        refine c_tab_Done g4.tb fun S5 k5 tb5 f5 hk5 => ?_
        obtain ⟨g5, t5⟩ := g4.setTab tb5 f5 (.inl hk5)
        simp -implicitDefEqProofs (disch := omega) only [seval, go_sem, r0, r4, r39, r40, r41, hdg]
        refine ⟨_, .sl _ _ _, hK S5 _ ?_ (((t2.trans t3).trans t4).trans t5)⟩
        refine g5.tcEq fun p => ?_
        show stampT (M.tc ++ List.map (fun p => (p, M.ver + 1#64)) ((M.L.filter fun r => decide (r.path ∈ gone)).flatMap rowTouch)) p = _
        rw [stampT_app, stampT_app]
        by_cases hp : p ∈ (M.L.filter fun r => decide (r.path ∈ gone)).flatMap rowTouch
        · rw [if_pos hp, if_pos ((touch_mem hnd hgs p).2 hp)]
        · rw [if_neg hp, if_neg fun hh => hp ((touch_mem hnd hgs p).1 hh)]
    · have hne : gone = [] := List.eq_nil_of_length_eq_zero (by omega)
      rw [if_pos hne] at hK
      subst hne
      simp -implicitDefEqProofs (disch := omega) only [seval, go_sem, q0, q3, q14, q15, q16, q4, hs2, hdg]
      refine loW_inv (fun n T S3 => T 0 = .ptr s 0 ∧ T 4 = .sl (.own kg) 1 (dT []) ∧ T 40 = .lit (.int .i64 0) ∧ T 41 = .lit (.int .i64 0) ∧ S3 = S2) 0 ⟨q0, q4, rfl, rfl, rfl⟩ ?_
      rintro n T S3 ⟨r0, r4, r40, r41, rfl⟩
      simp -implicitDefEqProofs (disch := omega) only [seval, go_sem, r0, r4, r40, r41, hs2]
      refine c_tab_Done g2.tb fun S4 k4 tb4 f4 hk4 => ?_
      obtain ⟨g4, t4⟩ := g2.setTab tb4 f4 (.inl hk4)
      simp -implicitDefEqProofs (disch := omega) only [seval, go_sem, r0, r4, r40, r41, hs2]
      exact ⟨_, .sl _ _ _, hK S4 _ g4 (t2.trans t4)⟩
end
end Go.Proofs.YtlljknmojafkoaaGreatDoor
namespace Go.Proofs.YtlljknmojafkoaaGreatDoor
open Go.RowKit TL
deriving instance DecidableEq for RowM
theorem RowM.ext' {x y : RowM} : x = y ↔ x.path = y.path ∧ x.name = y.name ∧ x.arc = y.arc ∧ x.refs = y.refs := by
  constructor
  · intro h; subst h; exact ⟨rfl, rfl, rfl, rfl⟩
  · intro ⟨h1, h2, h3, h4⟩; cases x; cases y; simp_all
section
variable {S : TS} {s : Nat} {I : StI} {L : List RowM} {jd : List D} {B : Bs → Bs → Bool} {roots : List Bs} {ver : BitVec 64} {tc : List (Bs × BitVec 64)}
end
end Go.Proofs.YtlljknmojafkoaaGreatDoor
namespace Go.Proofs.YtlljknmojafkoaaGreatDoor
open Go.RowKit TL
theorem StG.keep {S S1 : TS} {s : Nat} {I : StI} {L : List RowM} {jd : List D} {B : Bs → Bs → Bool} {roots : List Bs} {ver : BitVec 64} {tc : List (Bs × BitVec 64)} (h : StG S s I L jd B roots ver tc) (hk : Keep S S1) : StG S1 s I L jd B roots ver tc := h.fr hk.1 fun id hid => hk.2 id (h.flt id hid)
/-- Bounds of a store. -/
structure StB (M : StM) : Prop where
  rb : ∀ r ∈ M.L, RowB r
  ll : M.L.length ≤ 1000
  rl : M.roots.length ≤ 100000
  rp : ∀ p ∈ M.roots, p.length ≤ 100000
  rr : ∀ r ∈ M.L, r.refs.length ≤ 255
theorem StB.pb {M : StM} (h : StB M) : ∀ p ∈ pathsOf M.L, p.length ≤ 1000000 := fun p hp => by
  obtain ⟨r, hr, e⟩ := List.mem_map.1 hp
  have := (h.rb r hr).pt
  rw [e] at this; omega
section
variable {S : TS} {a b : Nat} {I1 I2 : StI} {M1 M2 : StM}
end
end Go.Proofs.YtlljknmojafkoaaGreatDoor
namespace Go.Proofs.YtlljknmojafkoaaGreatDoor
open Go.RowKit TL
structure BackN (S0 S : TS) (bk : Nat) (bf : Bs → Option Nat) (B : Bs → Bs → Bool) : Prop where
  ok : BackOk S bk bf B
  lo : S0.n ≤ bk
  hi : bk < S.n
  ids : ∀ q id, bf q = some id → S0.n ≤ id ∧ id ≠ bk
theorem BackN.linkOld {S0 S : TS} {bk : Nat} {bf : Bs → Option Nat} {B : Bs → Bs → Bool} (h : BackN S0 S bk bf B) {q p : Bs} {id : Nat} (hq : bf q = some id) {es : Ents} {clock : Nat} {ks : List Bs} (mo : MapOk kS es clock ks) (hg : ∀ p, getM kS es p = if B q p = true then some (.lit (.bool true)) else none) :
    BackN S0 (S.set id (.map (putE (kS.v p) (.lit (.bool true)) es clock) (clkE (kS.v p) es clock))) bk bf (addB B q p) := by
  refine ⟨⟨?_, fun q' id' hq' => ⟨?_, (h.ok.yes q' id' hq').2⟩, fun q' hq' p' => ?_, h.ok.inj⟩, h.lo, h.hi, h.ids⟩
  · obtain ⟨es', c, ks', a, b, d⟩ := h.ok.om
    exact ⟨es', c, ks', (st_old _ (Ne.symm (h.ids q id hq).2)).trans a, b, d⟩
  · by_cases e : q' = q
    · subst e
      rw [hq] at hq'
      cases hq'
      exact SetOk.putT mo hg (TS.set_same' _ _ _) fun p' => by simp [addB]
    · have hne : id' ≠ id := fun e2 => e (h.ok.inj _ _ id (by rw [hq', e2]) hq)
      have := (h.ok.yes q' id' hq').1.fr (S' := S.set id (.map (putE (kS.v p) (.lit (.bool true)) es clock) (clkE (kS.v p) es clock))) (st_old _ hne)
      have hf : addB B q p q' = B q' := by funext p'; simp [addB, e]
      rw [hf]; exact this
  · have hne : q' ≠ q := fun e => by rw [e, hq] at hq'; cases hq'
    simp [addB, hne, h.ok.no q' hq' p']
theorem BackN.linkNew {S0 S : TS} {bk : Nat} {bf : Bs → Option Nat} {B : Bs → Bs → Bool} (h : BackN S0 S bk bf B) {q p : Bs} (hq : bf q = none) {es : Ents} {clock : Nat} {ks : List Bs} (om : S.objs bk = .map es clock) (mo : MapOk kS es clock ks) (hg : ∀ q, getM kS es q = (bf q).map TV.mp) :
    BackN S0 ((S.set bk (.map (putE (kS.v q) (.mp S.n) es clock) (clkE (kS.v q) es clock))).push (.map (putE (kS.v p) (.lit (.bool true)) [] 0) (clkE (kS.v p) [] 0))) bk (fun x => if x = q then some S.n else bf x) (addB B q p) := by
  have l2 := h.hi
  have l0 := h.lo
  have hold : ∀ id, id < S.n → id ≠ bk → ((S.set bk (.map (putE (kS.v q) (.mp S.n) es clock) (clkE (kS.v q) es clock))).push (.map (putE (kS.v p) (.lit (.bool true)) [] 0) (clkE (kS.v p) [] 0))).objs id = S.objs id := fun id hi hn =>
    psh_old0 (S := S.set _ _) (st_old _ hn) hi
  refine ⟨⟨⟨_, _, _, psh_old0 (S := S.set _ _) (TS.set_same' _ _ _) l2, mo.put q _, fun q' => ?_⟩, fun q' id' hq' => ?_, fun q' hq' p' => ?_, fun q1 q2 id' h1 h2 => ?_⟩, l0, Nat.lt_succ_of_lt l2, fun q' id' hq' => ?_⟩
  · rw [mo.get_put, hg]
    by_cases e : q' = q
    · rw [if_pos e, if_pos e]; rfl
    · rw [if_neg e, if_neg e]
  · by_cases e : q' = q
    · rw [if_pos e] at hq'
      cases hq'
      subst e
      refine ⟨⟨_, _, _, push_self _ _, (MapOk.nil (κ := kS)).put p _, fun p' => ?_⟩, Nat.lt_succ_self _⟩
      rw [getM_one]
      simp [addB, h.ok.no q' hq p']
    · rw [if_neg e] at hq'
      have hlt := (h.ok.yes q' id' hq').2
      refine ⟨?_, Nat.lt_succ_of_lt hlt⟩
      have hf : addB B q p q' = B q' := by funext p'; simp [addB, e]
      rw [hf]
      exact (h.ok.yes q' id' hq').1.fr (hold _ hlt (h.ids q' id' hq').2)
  · by_cases e : q' = q
    · rw [if_pos e] at hq'; cases hq'
    · rw [if_neg e] at hq'
      simp [addB, e, h.ok.no q' hq' p']
  · by_cases e1 : q1 = q
    · by_cases e2 : q2 = q
      · rw [e1, e2]
      · rw [if_pos e1] at h1
        rw [if_neg e2] at h2
        cases h1
        have := (h.ok.yes q2 _ h2).2
        omega
    · rw [if_neg e1] at h1
      by_cases e2 : q2 = q
      · rw [if_pos e2] at h2
        cases h2
        have := (h.ok.yes q1 _ h1).2
        omega
      · rw [if_neg e2] at h2
        exact h.ok.inj _ _ _ h1 h2
  · by_cases e : q' = q
    · rw [if_pos e] at hq'
      cases hq'
      exact ⟨by omega, by omega⟩
    · rw [if_neg e] at hq'
      exact h.ids q' id' hq'
section
variable {S : TS} {s : Nat} {I : StI} {L : List RowM} {jd : List D} {B : Bs → Bs → Bool} {roots : List Bs} {ver : BitVec 64} {tc : List (Bs × BitVec 64)}
end
end Go.Proofs.YtlljknmojafkoaaGreatDoor
namespace Go.Proofs.YtlljknmojafkoaaGreatDoor
open Go.RowKit TL
/-- What always holds of the document's store. -/
structure StM.Wf (M : StM) : Prop where
  nd : (pathsOf M.L).Nodup
  fit : ∀ r ∈ M.L, fitsR r = true
  ref : ∀ r ∈ M.L, ∀ q ∈ r.refs, hasP M.L q = true
  rs : Ris M.roots
  rt : ∀ p ∈ M.roots, hasP M.L p = true
section
variable {S : TS} {s : Nat} {I : StI} {L : List RowM} {jd : List D} {B : Bs → Bs → Bool} {roots : List Bs} {ver : BitVec 64} {tc : List (Bs × BitVec 64)}
end
section
variable {S : TS} {s : Nat} {I : StI} {M : StM}
end
end Go.Proofs.YtlljknmojafkoaaGreatDoor
namespace Go.Proofs.YtlljknmojafkoaaGreatDoor
open Go.RowKit TL
theorem stF_lit (s : Nat) (I : StI) (h : ∀ q, I.bf q = none) (id : Nat) : stF s I id ↔ id ∈ [s, I.tab, I.rm, I.k, I.bk, I.rt, I.sm] := ⟨fun hh => hh.resolve_right fun ⟨q, hq⟩ => (by rw [h q] at hq; cases hq), .inl⟩
/-- A new store. -/
theorem c_Store_new {S : TS} {K : TV → TS → Prop} (hK : ∀ S' s I, StOk S' s I .new → (∀ id, stF s I id → S.n ≤ id) → Keep S S' → K (.ptr s 0) S') : TCall env 13 [] S K := by
  refine TCall.gh ?_
  refine c_db_New ?_
  generalize hS5 : ((((((S.push (.map [] 0)).push (.cells 152 [.mp S.n, .sl .full 0 []])).push (.map [] 0)).push (.map [] 0)).push (.map [] 0)).push (.cells 94 [.ptr (S.n + 1) 0, .mp (S.n + 2), .mp (S.n + 3), .mp (S.n + 4), .lit (w64 0#64)])) = S5
  have hn5 : S5.n = S.n + 6 := by rw [← hS5]; rfl
  have o0 : S5.objs S.n = .map [] 0 := by rw [← hS5]; exact psh_old0 (psh_old0 (psh_old0 (psh_old0 (psh_old0 (push_self _ _) (by simp only [TS.push_n]; omega)) (by simp only [TS.push_n]; omega)) (by simp only [TS.push_n]; omega)) (by simp only [TS.push_n]; omega)) (by simp only [TS.push_n]; omega)
  have o1 : S5.objs (S.n + 1) = .cells 152 [.mp S.n, .sl .full 0 []] := by rw [← hS5]; exact psh_old0 (psh_old0 (psh_old0 (psh_old0 (push_self (S.push _) _) (by simp only [TS.push_n]; omega)) (by simp only [TS.push_n]; omega)) (by simp only [TS.push_n]; omega)) (by simp only [TS.push_n]; omega)
  have o2 : S5.objs (S.n + 2) = .map [] 0 := by rw [← hS5]; exact psh_old0 (psh_old0 (psh_old0 (push_self ((S.push _).push _) _) (by simp only [TS.push_n]; omega)) (by simp only [TS.push_n]; omega)) (by simp only [TS.push_n]; omega)
  have o3 : S5.objs (S.n + 3) = .map [] 0 := by rw [← hS5]; exact psh_old0 (psh_old0 (push_self (((S.push _).push _).push _) _) (by simp only [TS.push_n]; omega)) (by simp only [TS.push_n]; omega)
  have o4 : S5.objs (S.n + 4) = .map [] 0 := by rw [← hS5]; exact psh_old0 (push_self ((((S.push _).push _).push _).push _) _) (by simp only [TS.push_n]; omega)
  have o5 : S5.objs (S.n + 5) = .cells 94 [.ptr (S.n + 1) 0, .mp (S.n + 2), .mp (S.n + 3), .mp (S.n + 4), .lit (w64 0#64)] := by rw [← hS5]; exact push_self (((((S.push _).push _).push _).push _).push _) _
  have hk5 : Keep S S5 := by rw [← hS5]; exact (((((Keep.push _ _).push' _).push' _).push' _).push' _).push' _
  have hgh := Gh.bufCell 167 6 1 o1 rfl
  refine ⟨_, hgh, ?_⟩
  have hold : ∀ id o, id ≠ S.n + 1 → id < S5.n → S5.objs id = o → ((S5.push (.cells 167 [])).set (S.n + 1) (.cells 152 ([TV.mp S.n, .sl .full 0 []].set 1 (.vs S5.n 0 6 0)))).objs id = o := fun id o h1 h2 h3 => (st_old _ h1).trans (psh_old0 h3 h2)
  have p0 := hold S.n _ (by omega) (by omega) o0
  have p2 := hold (S.n + 2) _ (by omega) (by omega) o2
  have p3 := hold (S.n + 3) _ (by omega) (by omega) o3
  have p4 := hold (S.n + 4) _ (by omega) (by omega) o4
  have p5 := hold (S.n + 5) _ (by omega) (by omega) o5
  refine hK _ (S.n + 5) ⟨S.n + 1, S.n, S5.n, S.n + 2, S.n + 3, S.n + 4, fun _ => none⟩ ⟨p5, ⟨TS.set_same' _ _ _, (st_old _ (by show S5.n ≠ _; omega)).trans (push_self _ _), rfl, ⟨[], 0, [], p0, MapOk.nil, fun p => rfl, List.Perm.refl _⟩, ⟨by show S.n + 1 < S5.n + 1; omega, by show S.n < S5.n + 1; omega, Nat.lt_succ_self _⟩, ⟨by show S.n + 1 ≠ S.n; omega, by show S.n + 1 ≠ S5.n; omega, by show S.n ≠ S5.n; omega⟩⟩,
    ⟨⟨[], 0, [], p2, MapOk.nil, fun q => rfl⟩, (fun q id h => by cases h), (fun q _ p => rfl), (fun q q' id h => by cases h)⟩, ⟨[], 0, [], p3, MapOk.nil, fun p => rfl⟩, ⟨[], 0, [], p4, MapOk.nil, fun p => rfl⟩,
    ⟨by show S.n + 5 < S5.n + 1; omega, by show S.n + 2 < S5.n + 1; omega, by show S.n + 3 < S5.n + 1; omega, by show S.n + 4 < S5.n + 1; omega⟩, nodup7.2 ?_, (fun q id h => by cases h)⟩ ?_ ?_
  · show StNe (S.n + 5) (S.n + 1) S.n S5.n (S.n + 2) (S.n + 3) (S.n + 4)
    exact ⟨by omega, by omega, by omega, by omega, by omega, by omega, by omega, by omega, by omega, by omega, by omega, by omega, by omega, by omega, by omega, by omega, by omega, by omega, by omega, by omega, by omega⟩
  · intro id hid
    rw [stF_lit _ _ (fun _ => rfl)] at hid
    simp only [List.mem_cons, List.not_mem_nil, or_false] at hid
    omega
  · exact (hk5.push' _).set (by omega) _
end Go.Proofs.YtlljknmojafkoaaGreatDoor
namespace Go.Proofs.YtlljknmojafkoaaGreatDoor
open Go.RowKit TL
def rowOne (ar : Bs) : RowM := ⟨mkP nN ar [], nN, ar, []⟩
theorem rowOne_fits (ar : Bs) : fitsR (rowOne ar) = true := by
  unfold fitsR rowOne
  rw [right_n, refs_nil]
  exact decide_eq_true rfl
theorem rowOne_B (ar : Bs) (h : ar.length ≤ 1000000) : RowB (rowOne ar) := ⟨by show (1:Nat) ≤ _; decide, h, by simp [rowOne], (fun s h => by cases h), by show (mkP nN ar []).length ≤ 100000; rw [mkP_len]; decide⟩
theorem put_one (ar : Bs) : putM .new [rowOne ar] = (touchM { StM.new with L := [rowOne ar], ver := 1#64 } [mkP nN ar []], 0) := by
  have h1 : putF [] [rowOne ar] [] = (0, [rowOne ar]) := by
    unfold putF
    rw [rowOne_fits, if_neg (by simp), if_neg (by simp [hasP, rowAt]), if_neg (by simp [rowOne]), if_neg (by simp)]
    rfl
  have h2 : putF StM.new.L [rowOne ar] [] = (0, [rowOne ar]) := h1
  unfold putM
  rw [h2]
  rfl
end Go.Proofs.YtlljknmojafkoaaGreatDoor
namespace Go.Proofs.YtlljknmojafkoaaGreatDoor
open Go.RowKit TL
/-- What always holds, with bounds. -/
structure Inv (M : StM) : Prop where
  wf : M.Wf
  rb : ∀ r ∈ M.L, RowB r
  ll : M.L.length ≤ 64
  rl : M.roots.length ≤ 16
theorem Inv.new : Inv .new := ⟨⟨List.nodup_nil, (fun r h => by cases h), (fun r h => by cases h), List.Pairwise.nil, (fun p h => by cases h)⟩, (fun r h => by cases h), Nat.zero_le _, Nat.zero_le _⟩
theorem refs255 {r : RowM} (h : fitsR r = true) : r.refs.length ≤ 255 := by
  unfold fitsR refsOk at h
  simp only [Bool.and_eq_true, decide_eq_true_eq] at h
  exact h.1.2.1.1
section
variable {M : StM}
theorem Inv.nd (h : Inv M) : (pathsOf M.L).Nodup := h.wf.nd
theorem Inv.pb (h : Inv M) : ∀ p ∈ pathsOf M.L, p.length ≤ 100000 := fun p hp => by
  obtain ⟨r, hr, rfl⟩ := List.mem_map.1 hp
  exact (h.rb r hr).pt
theorem Inv.pb6 (h : Inv M) : ∀ p ∈ pathsOf M.L, p.length ≤ 1000000 := fun p hp => Nat.le_trans (h.pb p hp) (by decide)
theorem Inv.rpb (h : Inv M) : ∀ p ∈ M.roots, p.length ≤ 100000 := fun p hp => h.pb p ((hasP_iff _ _).1 (h.wf.rt p hp))
theorem Inv.mu (h : Inv M) : muL M.L [] ≤ 16384 := by
  have := muL_bound (L := M.L) (by have := h.ll; omega) fun r hr => refs255 (h.wf.fit r hr)
  have := h.ll
  omega
theorem reach_len (L : List RowM) (f : List Bs) : (reachL L f).length ≤ L.length := by
  have := nodup_len (ris_nodup (reachL_ok L f).1) (b := pathsOf L) fun p hp => (hasP_iff L p).1 (((reachL_ok L f).2 p).1 hp).has
  simpa [pathsOf] using this
theorem Inv.reach (h : Inv M) (f : List Bs) : (reachL M.L f).length ≤ 64 := Nat.le_trans (reach_len _ _) h.ll
theorem putF_inv (L : List RowM) : ∀ (l fr : List RowM), (∀ r ∈ fr, fitsR r = true ∧ ∀ q ∈ r.refs, hasP (L ++ fr) q = true) → (L ++ fr).length ≤ 64 →
    (∀ r ∈ (putF L l fr).2, fitsR r = true ∧ ∀ q ∈ r.refs, hasP (L ++ (putF L l fr).2) q = true) ∧ (L ++ (putF L l fr).2).length ≤ 64
  | [], fr, h, hl => ⟨h, hl⟩
  | r :: l, fr, h, hl => by
    unfold putF
    split
    · exact ⟨h, hl⟩
    rename_i h1
    split
    · exact putF_inv L l fr h hl
    split
    · exact ⟨h, hl⟩
    rename_i h3
    split
    · exact ⟨h, hl⟩
    rename_i h4
    refine putF_inv L l (fr ++ [r]) (fun x hx => ?_) (by simp only [List.length_append, List.length_singleton] at h4 ⊢; omega)
    have hmono : ∀ q, hasP (L ++ fr) q = true → hasP (L ++ (fr ++ [r])) q = true := fun q hq => by rw [← List.append_assoc, hasP_app, hq]; rfl
    rcases List.mem_append.1 hx with hx | hx
    · exact ⟨(h x hx).1, fun q hq => hmono q ((h x hx).2 q hq)⟩
    · rw [List.mem_singleton.1 hx]
      refine ⟨by simpa using h1, fun q hq => hmono q ?_⟩
      have h3' : r.refs.all (hasP (L ++ fr)) = true := by simpa using h3
      exact List.all_eq_true.1 h3' q hq
theorem Inv.put (h : Inv M) {l : List RowM} (hb : ∀ r ∈ l, RowB r) : Inv (putM M l).1 := by
  unfold putM
  split
  · exact h
  split
  · exact h
  obtain ⟨g1, g2⟩ := putF_inv M.L l [] (fun r hr => by cases hr) (by rw [List.append_nil]; exact h.ll)
  have g3 := putF_nodup M.L l [] (by rw [List.append_nil]; exact h.nd)
  have g4 := putF_sub M.L l []
  have hm : ∀ q, hasP M.L q = true → hasP (M.L ++ (putF M.L l []).2) q = true := fun q hq => by rw [hasP_app, hq]; rfl
  refine ⟨⟨g3, fun r hr => ?_, fun r hr q hq => ?_, h.wf.rs, fun p hp => hm p (h.wf.rt p hp)⟩, fun r hr => ?_, g2, h.rl⟩
  · rcases List.mem_append.1 hr with hr | hr
    · exact h.wf.fit r hr
    · exact (g1 r hr).1
  · rcases List.mem_append.1 hr with hr | hr
    · exact hm q (h.wf.ref r hr q hq)
    · exact (g1 r hr).2 q hq
  · rcases List.mem_append.1 hr with hr | hr
    · exact h.rb r hr
    · rcases g4 r hr with hr | hr
      · cases hr
      · exact hb r hr
theorem Inv.root (h : Inv M) (p : Bs) : Inv (rootM M p).1 := by
  unfold rootM
  split
  · exact h
  rename_i h1
  split
  · exact h
  split
  · exact h
  rename_i h3
  refine ⟨⟨h.wf.nd, h.wf.fit, h.wf.ref, riseL_ris _, fun q hq => ?_⟩, h.rb, h.ll, ?_⟩
  · have hq : q ∈ riseL (M.roots ++ [p]) := hq
    rw [riseL_mem] at hq
    rcases List.mem_append.1 hq with hq | hq
    · exact h.wf.rt q hq
    · rw [List.mem_singleton.1 hq]
      have h1' : hasP M.L p = true := by simpa using h1
      exact h1'
  · show (riseL (M.roots ++ [p])).length ≤ 16
    have := riseL_len (M.roots ++ [p])
    simp only [List.length_append, List.length_singleton] at this
    omega
theorem hasP_filter (L : List RowM) (g : List Bs) {q : Bs} (hq : q ∉ g) : hasP (L.filter fun r => !decide (r.path ∈ g)) q = hasP L q := by
  unfold hasP
  rw [rowAt_filter_no L g hq]
theorem Inv.cut (h : Inv M) {g : List Bs} (h1 : ∀ r ∈ M.L, r.path ∉ g → ∀ q ∈ r.refs, q ∉ g) (h2 : ∀ p ∈ M.roots, p ∉ g) : Inv (cutM M g) := by
  have hs : ∀ r, r ∈ (M.L.filter fun r => !decide (r.path ∈ g)) → r ∈ M.L ∧ r.path ∉ g := fun r hr => by
    have := List.mem_filter.1 hr
    exact ⟨this.1, by simpa using this.2⟩
  refine ⟨⟨?_, fun r hr => h.wf.fit r (hs r hr).1, fun r hr q hq => ?_, h.wf.rs, fun p hp => ?_⟩, fun r hr => h.rb r (hs r hr).1, Nat.le_trans (List.length_filter_le _ _) h.ll, h.rl⟩
  · exact h.nd.sublist ((List.filter_sublist (l := M.L)).map _)
  · show hasP (M.L.filter fun r => !decide (r.path ∈ g)) q = true
    rw [hasP_filter _ _ (h1 r (hs r hr).1 (hs r hr).2 q hq)]
    exact h.wf.ref r (hs r hr).1 q hq
  · show hasP (M.L.filter fun r => !decide (r.path ∈ g)) p = true
    rw [hasP_filter _ _ (h2 p hp)]
    exact h.wf.rt p hp
theorem Inv.delete (h : Inv M) (p : Bs) : Inv (deleteM M p).1 := by
  unfold deleteM
  split
  · exact h
  split
  · exact h
  rename_i h2
  have hn : ¬ p ∈ M.roots := fun e => h2 (.inl e)
  have hr : withoutL (referrersL M.L p) p = [] := Classical.byContradiction fun e => h2 (.inr e)
  refine h.cut (fun r hr1 hr2 q hq hqg => ?_) fun q hq hqg => ?_
  · rw [List.mem_singleton] at hqg hr2
    subst hqg
    have hm : r.path ∈ withoutL (referrersL M.L q) q := by
      unfold withoutL
      refine List.mem_filter.2 ⟨?_, by simpa using hr2⟩
      rw [referrersL, riseL_mem]
      exact List.mem_map.2 ⟨r, List.mem_filter.2 ⟨hr1, by simpa using hq⟩, rfl⟩
    rw [hr] at hm
    cases hm
  · rw [List.mem_singleton.1 hqg] at hq
    exact hn hq
theorem refsOf_mem {L : List RowM} (hnd : (pathsOf L).Nodup) {r : RowM} (hr : r ∈ L) : refsOf L r.path = r.refs := by
  unfold refsOf
  rw [rowAt_of_mem hnd hr]
theorem Inv.sweep (h : Inv M) : Inv (sweepM M).1 := by
  unfold sweepM
  split
  · exact h
  obtain ⟨_, hl⟩ := reachL_ok M.L M.roots
  have hlive : ∀ q, hasP M.L q = true → (q ∈ (pathsOf M.L).filter (fun p => !decide (p ∈ reachL M.L M.roots)) ↔ ¬ Rch M.L M.roots q) := fun q hq => by
    rw [List.mem_filter, ← hl]
    have := (hasP_iff _ _).1 hq
    simp [this]
  have hmem : ∀ q, q ∈ (pathsOf M.L).filter (fun p => !decide (p ∈ reachL M.L M.roots)) → ¬ Rch M.L M.roots q := fun q hq => by
    rw [← hl]
    simpa using (List.mem_filter.1 hq).2
  refine h.cut (fun r hr1 hr2 q hq hqg => ?_) fun q hq hqg => hmem q hqg (.base hq (h.wf.rt q hq))
  have hrp : hasP M.L r.path = true := (hasP_iff _ _).2 (List.mem_map.2 ⟨r, hr1, rfl⟩)
  have hrl : Rch M.L M.roots r.path := Classical.byContradiction fun e => hr2 ((hlive _ hrp).2 e)
  exact hmem q hqg (.step hrl (by rw [refsOf_mem h.nd hr1]; exact hq) (h.wf.ref r hr1 q hq))
/-! ### what a change touches -/
structure Chg (M M' : StM) (l : List Bs) : Prop where
  ver : M'.ver = M.ver + 1#64
  tc : M'.tc = M.tc ++ l.map fun p => (p, M.ver + 1#64)
  row : ∀ q, q ∉ l → rowAt M'.L q = rowAt M.L q
end
/-! ### claims that are fresh -/
/-- Since a store: what was not touched is as it was. -/
structure SureI (M0 M : StM) (n : Nat) : Prop where
  lo : M0.ver.toNat ≤ M.ver.toNat
  hi : M.ver.toNat ≤ n
  st : ∀ q, M0.ver.toNat < (stampT M.tc q).toNat ∨ (stampT M.tc q = stampT M0.tc q ∧ rowAt M.L q = rowAt M0.L q)
theorem SureI.refl {M : StM} {n : Nat} (h : M.ver.toNat ≤ n) : SureI M M n := ⟨Nat.le_refl _, h, fun q => .inr ⟨rfl, rfl⟩⟩
theorem SureI.mono {M0 M : StM} {n m : Nat} (h : SureI M0 M n) (hm : n ≤ m) : SureI M0 M m := ⟨h.lo, Nat.le_trans h.hi hm, h.st⟩
theorem SureI.step {M0 M M' : StM} {n : Nat} (h : SureI M0 M n) (hn : n ≤ 100000) (hc : M' = M ∨ ∃ t, Chg M M' t) : SureI M0 M' (n + 1) := by
  rcases hc with rfl | ⟨t, hv, ht, hr⟩
  · exact h.mono (Nat.le_succ _)
  have h1 := h.hi
  have h2 := h.lo
  have hv' : M'.ver.toNat = M.ver.toNat + 1 := by
    rw [hv, BitVec.toNat_add]
    show (M.ver.toNat + 1) % 18446744073709551616 = _
    omega
  refine ⟨by omega, by omega, fun q => ?_⟩
  rw [ht, stampT_app]
  by_cases hq : q ∈ t
  · rw [if_pos hq, ← hv]
    exact .inl (by omega)
  · rw [if_neg hq, hr q hq]
    exact h.st q
theorem SureI.same {M0 M : StM} {n : Nat} (h : SureI M0 M n) (hw : M0.Wf) (h0 : ∀ q, (stampT M0.tc q).toNat ≤ M0.ver.toNat) {p : Bs} (hp : hasP M0.L p = true) (hs : ∀ q ∈ reachL M0.L [p], stampT M.tc q = stampT M0.tc q) : reachL M.L [p] = reachL M0.L [p] := by
  obtain ⟨r1, m1⟩ := reachL_ok M.L [p]
  obtain ⟨r0, m0⟩ := reachL_ok M0.L [p]
  have hrow : ∀ q ∈ reachL M0.L [p], rowAt M.L q = rowAt M0.L q := fun q hq => by
    rcases h.st q with h1 | h1
    · rw [hs q hq] at h1
      have := h0 q
      omega
    · exact h1.2
  have hp0 : Rch M0.L [p] p := .base (by simp) hp
  refine ris_ext r1 r0 fun q => ?_
  rw [m1, m0]
  constructor
  · intro hq
    induction hq with
    | base hb hh =>
      rw [List.mem_singleton.1 hb]
      exact hp0
    | @step a b ha hb hh ih =>
      have e : refsOf M.L a = refsOf M0.L a := by unfold refsOf; rw [hrow a ((m0 a).2 ih)]
      rw [e] at hb
      have ha0 := ih.has
      obtain ⟨r, hr, hrp⟩ := List.mem_map.1 ((hasP_iff _ _).1 ha0)
      have : b ∈ r.refs := by
        rw [← refsOf_mem hw.nd hr, hrp]; exact hb
      exact .step ih hb (hw.ref r hr b this)
  · intro hq
    have hh : ∀ q, Rch M0.L [p] q → hasP M.L q = true := fun q hq => by
      have := hrow q ((m0 q).2 hq)
      unfold hasP
      rw [this]
      exact hq.has
    induction hq with
    | base hb _ =>
      rw [List.mem_singleton.1 hb]
      exact .base (by simp) (hh p hp0)
    | @step a b ha hb hp2 ih =>
      have e : refsOf M.L a = refsOf M0.L a := by unfold refsOf; rw [hrow a ((m0 a).2 ha)]
      exact .step ih (by rw [e]; exact hb) (hh b (.step ha hb hp2))
end Go.Proofs.YtlljknmojafkoaaGreatDoor
namespace Go.Proofs.YtlljknmojafkoaaGreatDoor
open Go.RowKit TL
/-- A list of rows each of which refers to what is ahead of it. -/
def Chn : List Bs → List RowM → Prop
  | _, [] => True
  | s, r :: l => fitsR r = true ∧ (∀ q ∈ r.refs, q ∈ s) ∧ Chn (s ++ [r.path]) l
theorem Chn.take : ∀ {l : List RowM} {s : List Bs} (k : Nat), Chn s l → Chn s (l.take k)
  | [], s, k, h => by rw [List.take_nil]; exact h
  | x :: l, s, 0, h => trivial
  | x :: l, s, k + 1, h => ⟨h.1, h.2.1, h.2.2.take k⟩
theorem putF_chn {L : List RowM} : ∀ (l : List RowM) (s : List Bs) (fr : List RowM), Chn s l → (∀ q ∈ s, hasP (L ++ fr) q = true) → (L ++ fr).length + l.length ≤ 64 →
    (putF L l fr).1 = 0 ∧ (∀ q ∈ s ++ pathsOf l, hasP (L ++ (putF L l fr).2) q = true)
  | [], s, fr, h, hs, hl => ⟨rfl, by simpa [pathsOf, putF] using hs⟩
  | r :: l, s, fr, h, hs, hl => by
    obtain ⟨h1, h2, h3⟩ := h
    have hl2 : (L ++ fr).length + l.length + 1 ≤ 64 := by simp only [List.length_cons] at hl; omega
    have hmem : ∀ q, q ∈ s ++ pathsOf (r :: l) → q ∈ (s ++ [r.path]) ++ pathsOf l := fun q hq => by simpa [pathsOf] using hq
    unfold putF
    rw [if_neg (by rw [h1]; simp)]
    split
    · rename_i h4
      obtain ⟨g1, g2⟩ := putF_chn l (s ++ [r.path]) fr h3 (fun q hq => by
        rcases List.mem_append.1 hq with hq | hq
        · exact hs q hq
        · rw [List.mem_singleton.1 hq]; exact h4) (by omega)
      exact ⟨g1, fun q hq => g2 q (hmem q hq)⟩
    rename_i h4
    rw [if_neg (by rw [List.all_eq_true.2 fun q hq => hs q (h2 q hq)]; simp), if_neg (by omega)]
    obtain ⟨g1, g2⟩ := putF_chn l (s ++ [r.path]) (fr ++ [r]) h3 (fun q hq => by
      rw [← List.append_assoc, hasP_app]
      rcases List.mem_append.1 hq with hq | hq
      · rw [hs q hq]; rfl
      · rw [List.mem_singleton.1 hq, hasP_one]; simp) (by simp only [List.length_append, List.length_singleton] at hl2 ⊢; omega)
    exact ⟨g1, fun q hq => g2 q (hmem q hq)⟩
/-- Rows that were made: from names that are right, archives within bounds, paths ahead. -/
structure MadeOk (l : List RowM) : Prop where
  rb : ∀ r ∈ l, RowB r
  ip : ∀ r ∈ l, isP r.path = true
  nm : ∀ r ∈ l, r.name.length ≤ 5 ∧ r.name ≠ [UInt8.toBitVec 111, UInt8.toBitVec 116, UInt8.toBitVec 104, UInt8.toBitVec 101, UInt8.toBitVec 114]
  ch : Chn [] l
theorem MadeOk.nil : MadeOk [] := ⟨(fun r h => by cases h), (fun r h => by cases h), (fun r h => by cases h), trivial⟩
theorem MadeOk.take {l : List RowM} (h : MadeOk l) (k : Nat) : MadeOk (l.take k) :=
  ⟨fun r hr => h.rb r (List.mem_of_mem_take hr), fun r hr => h.ip r (List.mem_of_mem_take hr), fun r hr => h.nm r (List.mem_of_mem_take hr), h.ch.take k⟩
/-- .. can be put into a new store. -/
theorem MadeOk.onNil {l : List RowM} (h : MadeOk l) (hl : l.length ≤ 64) : (putF [] l []).1 = 0 ∧ ∀ q ∈ pathsOf l, hasP (putF [] l []).2 q = true := by
  have := putF_chn (L := []) l [] [] h.ch (fun q hq => by cases hq) (by simpa using hl)
  simpa using this
end Go.Proofs.YtlljknmojafkoaaGreatDoor
namespace Go.Proofs.YtlljknmojafkoaaGreatDoor
open Go.RowKit TL
/-- A tree. -/
inductive Nd where
  | mk (kind : BitVec 8) (names : List Bs) (kids : List Nd) (data : Bs) (run : Bool) (stamp : BitVec 64) (target : Bs)
instance : Inhabited Nd := ⟨.mk 0#8 [] [] [] false 0#64 []⟩
theorem quo8 (P : Program) (ty : TypeId) (x : BitVec 8) (b : Int) (h : 0 < b ∧ b < 256) : tvBin P .quo ty (w8 x) (.int .u8 b) = some (w8 (x / BitVec.ofInt 8 b)) := by
  obtain ⟨n, rfl⟩ : ∃ n : Nat, b = (n : Int) := ⟨b.toNat, by omega⟩
  simp only [tvBin, tvInt]
  rw [if_neg (by simp), if_pos trivial, if_neg (by omega), BitVec.ofInt_natCast]
  have e1 : ((x.toNat : Int)).tdiv (n : Int) = ((x.toNat / n : Nat) : Int) := (Int.ofNat_tdiv _ _).symm
  have e2 : x.toNat / n < 256 := Nat.lt_of_le_of_lt (Nat.div_le_self _ _) x.isLt
  have e3 : (x / BitVec.ofNat 8 n).toNat = x.toNat / n := by rw [BitVec.toNat_udiv, BitVec.toNat_ofNat, Nat.mod_eq_of_lt (a := n) (by omega)]
  rw [e1, w8, e3]
  simp [IntKind.wrap, IntKind.bits, IntKind.signed]
  omega
attribute [go_sem] quo8
/-- A tree of at most that many layers, none of them too wide. -/
def NdB (B : Nat) : Nat → Nd → Prop
  | 0, _ => False
  | k + 1, .mk _ ns ks d _ _ t => ns.length = ks.length ∧ ks.length ≤ 63 ∧ d.length ≤ B ∧ t.length ≤ B + 1 ∧ (∀ s ∈ ns, s.length ≤ 70000) ∧ ∀ x ∈ ks, NdB B k x
/-- A tree that is made of a list. -/
def NdM (B : Nat) : Nat → Nd → Prop
  | 0, _ => False
  | k + 1, .mk _ ns ks d _ _ t => ns.length = ks.length ∧ ks.length ≤ 39 ∧ d.length ≤ B ∧ t.length ≤ B + 1 ∧ (∀ s ∈ ns, s.length ≤ 40) ∧ ∀ x ∈ ks, NdM B k x
theorem NdM.b {B : Nat} : ∀ {k : Nat} {n : Nd}, NdM B k n → NdB B k n
  | 0, _, h => h.elim
  | k + 1, .mk _ ns ks d _ _ t, ⟨h1, h2, h3, h4, h5, h6⟩ => ⟨h1, Nat.le_trans h2 (by decide), h3, h4, fun s hs => Nat.le_trans (h5 s hs) (by decide), fun x hx => (h6 x hx).b⟩
end Go.Proofs.YtlljknmojafkoaaGreatDoor
namespace Go.Proofs.YtlljknmojafkoaaGreatDoor
open Go.RowKit TL
theorem str_leq {P : Program} {ty : TypeId} {a b : Bs} : tvBin P .leq ty (.string (st a)) (.string (st b)) = some (.bool (ltS a b || decide (a = b))) := by
  simp only [tvBin, tvStr, eqS_ok]
  rw [st_list, st_list, ltS_ok]
attribute [go_sem] str_leq
-- END form
end Go.Proofs.YtlljknmojafkoaaGreatDoor
namespace Go.Proofs.YtlljknmojafkoaaGreatDoor
open Go.RowKit TL
end Go.Proofs.YtlljknmojafkoaaGreatDoor
namespace Go.Proofs.YtlljknmojafkoaaGreatDoor
open Go.RowKit TL
/-- What a node is made of. -/
structure Mk where
  up : BitVec 8
  kind : BitVec 8
  name : BitVec 8
  data : Bs
  run : Bool
  stamp : BitVec 64
instance : Inhabited Mk := ⟨⟨0#8, 0#8, 0#8, [], false, 0#64⟩⟩
/-- The kids' loop: names and kids are as many, few enough, each within bounds. -/
structure KdB (B k c : Nat) (ns : List Bs) (ks : List Nd) : Prop where
  e : ns.length = ks.length
  l : ks.length ≤ c
  n : ∀ s ∈ ns, s.length ≤ 40
  k : ∀ x ∈ ks, NdM B k x
theorem KdB.mono {B k c c' : Nat} {ns : List Bs} {ks : List Nd} (h : KdB B k c ns ks) (hc : c ≤ c') : KdB B k c' ns ks := ⟨h.e, Nat.le_trans h.l hc, h.n, h.k⟩
theorem KdB.nil (B k : Nat) : KdB B k 0 [] [] := ⟨rfl, Nat.le_refl _, (fun s h => by cases h), (fun s h => by cases h)⟩
section
variable {S S0 : TS} {ka kb id : Nat} {o : TObj}
end
end Go.Proofs.YtlljknmojafkoaaGreatDoor
namespace Go.Proofs.YtlljknmojafkoaaGreatDoor
open Go.RowKit TL
end Go.Proofs.YtlljknmojafkoaaGreatDoor
namespace Go.Proofs.YtlljknmojafkoaaGreatDoor
open Go.RowKit TL
structure ActM where
  do_ : BitVec 8
  a : BitVec 8
  b : BitVec 8
  more : BitVec 8
instance : Inhabited ActM := ⟨⟨0#8, 0#8, 0#8, 0#8⟩⟩
end Go.Proofs.YtlljknmojafkoaaGreatDoor
namespace Go.Proofs.YtlljknmojafkoaaGreatDoor
open Go.RowKit TL
end Go.Proofs.YtlljknmojafkoaaGreatDoor
namespace Go.Proofs.YtlljknmojafkoaaGreatDoor
open Go.RowKit TL
theorem putF_cons (L : List RowM) (r : RowM) (l fr : List RowM) : putF L (r :: l) fr = if fitsR r = false then (4, fr)
    else if hasP (L ++ fr) r.path = true then putF L l fr
    else if r.refs.all (hasP (L ++ fr)) = false then (6, fr)
    else if 64 ≤ (L ++ fr).length then (3, fr)
    else putF L l (fr ++ [r]) := rfl
theorem putF_app (L : List RowM) : ∀ (a b fr : List RowM), (putF L a fr).1 = 0 → putF L (a ++ b) fr = putF L b (putF L a fr).2
  | [], b, fr, _ => rfl
  | r :: a, b, fr, h => by
    rw [putF_cons] at h
    rw [List.cons_append, putF_cons L r (a ++ b) fr, putF_cons L r a fr]
    by_cases h1 : fitsR r = false
    · rw [if_pos h1] at h; cases h
    simp only [if_neg h1] at h ⊢
    by_cases h2 : hasP (L ++ fr) r.path = true
    · simp only [if_pos h2] at h ⊢
      exact putF_app L a b fr h
    simp only [if_neg h2] at h ⊢
    by_cases h3 : r.refs.all (hasP (L ++ fr)) = false
    · simp only [if_pos h3] at h; cases h
    simp only [if_neg h3] at h ⊢
    by_cases h4 : 64 ≤ (L ++ fr).length
    · simp only [if_pos h4] at h; cases h
    simp only [if_neg h4] at h ⊢
    exact putF_app L a b _ h
theorem putF_skip {L : List RowM} : ∀ (a : List RowM) {b fr : List RowM}, (∀ r ∈ a, fitsR r = true ∧ hasP (L ++ fr) r.path = true) → putF L (a ++ b) fr = putF L b fr
  | [], _, _, _ => rfl
  | r :: a, b, fr, h => by
    obtain ⟨h1, h2⟩ := h r (by simp)
    rw [List.cons_append]
    rw [putF_cons, if_neg (by rw [h1]; simp), if_pos h2]
    exact putF_skip a fun x hx => h x (List.mem_cons_of_mem _ hx)
theorem putF_shift (L fr0 : List RowM) : ∀ (b fr : List RowM), putF L b (fr0 ++ fr) = ((putF (L ++ fr0) b fr).1, fr0 ++ (putF (L ++ fr0) b fr).2)
  | [], fr => rfl
  | r :: b, fr => by
    rw [putF_cons, putF_cons, List.append_assoc L fr0 fr]
    split
    · rfl
    split
    · exact putF_shift L fr0 b fr
    split
    · rfl
    split
    · rfl
    rw [List.append_assoc]
    exact putF_shift L fr0 b (fr ++ [r])
theorem Chn.fit : ∀ {l : List RowM} {s : List Bs}, Chn s l → ∀ r ∈ l, fitsR r = true
  | r :: l, s, h, x, hx => by
    rcases List.mem_cons.1 hx with rfl | hx
    · exact h.1
    · exact h.2.2.fit x hx
/-- Behind some of them all the rest is put. -/
theorem MadeOk.two {l : List RowM} (h : MadeOk l) (hl : l.length ≤ 64) (k : Nat) : (putF (putF [] (l.take k) []).2 l []).1 = 0 ∧ (putF [] (l.take k) []).2 ++ (putF (putF [] (l.take k) []).2 l []).2 = (putF [] l []).2 := by
  obtain ⟨a1, a2⟩ := (h.take k).onNil (by rw [List.length_take]; omega)
  have e1 : putF [] l [] = putF [] (l.drop k) (putF [] (l.take k) []).2 := by
    rw [← putF_app [] _ _ [] a1, List.take_append_drop]
  have e2 : putF (putF [] (l.take k) []).2 l [] = putF (putF [] (l.take k) []).2 (l.drop k) [] := by
    have := putF_skip (L := (putF [] (l.take k) []).2) (l.take k) (b := l.drop k) (fr := []) fun r hr => ⟨(h.take k).ch.fit r hr, by
      rw [List.append_nil]
      exact a2 _ (List.mem_map.2 ⟨r, hr, rfl⟩)⟩
    rwa [List.take_append_drop] at this
  have e3 := putF_shift [] (putF [] (l.take k) []).2 (l.drop k) []
  rw [List.append_nil, List.nil_append] at e3
  have e0 := (h.onNil hl).1
  rw [e1, e3] at e0
  rw [e2]
  refine ⟨e0, ?_⟩
  rw [e1, e3]
theorem putM_L (M : StM) (l : List RowM) (h : (putF M.L l []).1 = 0) : (putM M l).2 = 0 ∧ (putM M l).1.L = M.L ++ (putF M.L l []).2 ∧ (putM M l).1.roots = M.roots := by
  unfold putM
  rw [if_neg (fun e => e h)]
  split
  · rename_i h2
    exact ⟨rfl, by rw [h2, List.append_nil], rfl⟩
  · exact ⟨rfl, rfl, rfl⟩
theorem putM_no (M : StM) (l : List RowM) {e : Int} (h : (putF M.L l []).1 = e) (he : e ≠ 0) : putM M l = (M, e) := by
  unfold putM
  rw [h, if_pos he]
end Go.Proofs.YtlljknmojafkoaaGreatDoor
namespace Go.Proofs.YtlljknmojafkoaaGreatDoor
open Go.RowKit TL
section
variable {S : TS}
end
def xP : Bs := [UInt8.toBitVec 120]
theorem del_new : deleteM .new xP = (.new, 5) := by unfold deleteM; exact if_pos rfl
def oneM : StM := touchM { StM.new with L := [rowOne [1#8]], ver := 1#64 } [mkP nN [1#8] []]
theorem oneM_has : hasP oneM.L (mkP nN [1#8] []) = true := by simp [oneM, touchM, hasP, rowAt, rowOne]
section
variable {S : TS}
set_option maxRecDepth 8000 in
set_option maxHeartbeats 1000000 in
theorem c_fresh10 {K : TV → TS → Prop} (hK : K (.lit (.bool true)) S) : TCall env 12 [] S K := by
  refine TCall.toPure (r := .lit (.bool true)) ?_ hK
  refine TCall.w 41 [.tmp 0] Tryz.func12 rfl rfl rfl rfl (by kernel_rfl) rfl ?_
  simp -implicitDefEqProofs (disch := omega) only [seval, go_sem]
  refine c_Store_new fun S1 s I h1 hf1 hk1 => ?_
  simp -implicitDefEqProofs (disch := omega) only [seval, go_sem]
  refine c_Version h1 ?_
  rw [show StM.new.ver = 0#64 from rfl]
  simp -implicitDefEqProofs (disch := omega) only [seval, go_sem]
  refine c_Delete (p := xP) h1 .nil (fun r hr => by cases hr) fun S2 I2 h2 t2 => ?_
  rw [del_new] at h2 ⊢
  simp -implicitDefEqProofs (disch := omega) only [seval, go_sem]
  refine c_r10_New ?_
  simp -implicitDefEqProofs (disch := omega) only [seval, go_sem, refV_mk]
  refine .argL (.same (.same (.same (.empty .nil)))) (c_ref07_Make0 (nm := nN) (ar := [1#8]) (ga := .full) ?_ right_n (by simp))
  simp -implicitDefEqProofs (disch := omega) only [seval, go_sem]
  refine .conv (b := [.ptr s 0, .sl .none 4 (dR [rowOne [1#8]])]) (.cons (.refl _) (.cons (.sl _ (.cons (De.aggF (.cons (.refl _) (.cons (.refl _) (.cons (.refl _) (.cons (.sl0 _ _) .nil))))) .nil)) .nil)) ?_
  refine c_Put h2 .nil (fun r hr => by rw [List.mem_singleton] at hr; subst hr; exact rowOne_B _ (by simp)) (.inl rfl) (by simp) (fun S4 I4 g4 t4 => ?_)
  rw [put_one] at g4 ⊢
  have g5 : StOk S4 s I4 (touchM { StM.new with L := [rowOne [1#8]], ver := 1#64 } [mkP nN [1#8] []]) := g4
  simp -implicitDefEqProofs (disch := omega) only [seval, go_sem]
  refine c_Has g5 ?_
  rw [show hasP (touchM { StM.new with L := [rowOne [1#8]], ver := 1#64 } [mkP nN [1#8] []]).L (mkP nN [1#8] []) = true from oneM_has]
  simp -implicitDefEqProofs (disch := omega) only [seval, go_sem]
  refine c_Version g5 ?_
  rw [show (touchM { StM.new with L := [rowOne [1#8]], ver := 1#64 } [mkP nN [1#8] []]).ver = 1#64 from rfl]
  simp -implicitDefEqProofs (disch := omega) only [seval, go_sem]
  refine ⟨.lit _, ⟨?_, fun id hid => ?_⟩⟩
  · have := hk1.1; have := t2.fr.n; have := t4.fr.n; omega
  · have a1 := hk1.1; have a2 := t2.fr.n
    have b1 : ¬ stF s I id := fun h => by have := hf1 id h; omega
    have b2 : ¬ stF s I2 id := fun h => (t2.sub id h).elim b1 (fun h => by omega)
    rw [t4.fr.o id (by omega) b2, t2.fr.o id (by omega) b1, hk1.2 id hid]
end
end Go.Proofs.YtlljknmojafkoaaGreatDoor
namespace Go.Proofs.YtlljknmojafkoaaGreatDoor.TL
/-- Words of 32 bits, side by side in places of 64 bits. -/
def pkF : Nat → (Nat → BitVec 32) → Nat
  | 0, _ => 0
  | n + 1, w => 18446744073709551616 * pkF n (fun j => w (j + 1)) + (w 0).toNat
theorem pk_bit {x X : Nat} (h : x < 18446744073709551616) (j : Nat) : (18446744073709551616 * X + x).testBit j = if j < 64 then x.testBit j else X.testBit (j - 64) := 
  Nat.testBit_two_pow_mul_add (i := 64) X h j
theorem pkF_bit : ∀ (n : Nat) (w : Nat → BitVec 32) (i : Nat), (pkF n w).testBit i = (decide (i / 64 < n) && (w (i / 64)).getLsbD (i % 64))
  | 0, w, i => by simp [pkF]
  | n + 1, w, i => by
    have h0 := (w 0).isLt
    rw [pkF, pk_bit (by omega)]
    split
    · rename_i h
      rw [show i / 64 = 0 by omega, show i % 64 = i by omega, decide_eq_true (by omega), Bool.true_and]
      rfl
    · rename_i h
      rw [pkF_bit n, show (i - 64) / 64 + 1 = i / 64 by omega, show (i - 64) % 64 = i % 64 by omega]
      congr 1
      exact decide_eq_decide.2 (by omega)
/-- All bits of all places. -/
def onesF (n : Nat) : Nat := pkF n fun _ => 4294967295#32
theorem getOnes (i : Nat) : (4294967295#32).getLsbD i = decide (i < 32) := by
  rw [show (4294967295#32) = BitVec.allOnes 32 from rfl, BitVec.getLsbD_allOnes]
theorem onesF_bit (n i : Nat) : (onesF n).testBit i = (decide (i / 64 < n) && decide (i % 64 < 32)) := by
  unfold onesF
  rw [pkF_bit, getOnes]
theorem pk_and (n : Nat) (w v : Nat → BitVec 32) : pkF n w &&& pkF n v = pkF n fun j => w j &&& v j := by
  apply Nat.eq_of_testBit_eq
  intro i
  rw [Nat.testBit_and, pkF_bit, pkF_bit, pkF_bit, BitVec.getLsbD_and]
  cases decide (i / 64 < n) <;> simp
theorem pk_or (n : Nat) (w v : Nat → BitVec 32) : pkF n w ||| pkF n v = pkF n fun j => w j ||| v j := by
  apply Nat.eq_of_testBit_eq
  intro i
  rw [Nat.testBit_or, pkF_bit, pkF_bit, pkF_bit, BitVec.getLsbD_or]
  cases decide (i / 64 < n) <;> simp
theorem pk_xor (n : Nat) (w v : Nat → BitVec 32) : pkF n w ^^^ pkF n v = pkF n fun j => w j ^^^ v j := by
  apply Nat.eq_of_testBit_eq
  intro i
  rw [Nat.testBit_xor, pkF_bit, pkF_bit, pkF_bit, BitVec.getLsbD_xor]
  cases decide (i / 64 < n) <;> simp
theorem pk_not (n : Nat) (w : Nat → BitVec 32) : pkF n w ^^^ onesF n = pkF n fun j => ~~~ w j := by
  unfold onesF
  rw [pk_xor]
  congr 1
  funext j
  apply BitVec.eq_of_getLsbD_eq
  intro i hi
  rw [BitVec.getLsbD_xor, getOnes, BitVec.getLsbD_not, decide_eq_true hi]
  simp
theorem pk_shr (n k : Nat) (hk : k ≤ 32) (w : Nat → BitVec 32) : pkF n w >>> k &&& onesF n = pkF n fun j => w j >>> k := by
  apply Nat.eq_of_testBit_eq
  intro i
  rw [Nat.testBit_and, Nat.testBit_shiftRight, pkF_bit, pkF_bit, onesF_bit, BitVec.getLsbD_ushiftRight]
  by_cases h : i % 64 < 32
  · rw [show (k + i) / 64 = i / 64 by omega, show (k + i) % 64 = k + i % 64 by omega, decide_eq_true h, Bool.and_true]
    cases decide (i / 64 < n) <;> simp
  · rw [decide_eq_false h, Bool.and_false, Bool.and_false, BitVec.getLsbD_of_ge _ _ (by omega), Bool.and_false]
theorem pk_shl (n k : Nat) (hk : k ≤ 32) (w : Nat → BitVec 32) : pkF n w <<< k &&& onesF n = pkF n fun j => w j <<< k := by
  apply Nat.eq_of_testBit_eq
  intro i
  rw [Nat.testBit_and, Nat.testBit_shiftLeft, pkF_bit, pkF_bit, onesF_bit, BitVec.getLsbD_shiftLeft]
  by_cases h : i % 64 < 32
  · by_cases h2 : i % 64 < k
    · rw [decide_eq_true h2, Bool.not_true, Bool.and_false, Bool.false_and, Bool.and_false]
      by_cases h3 : k ≤ i
      · rw [show (i - k) % 64 = 64 + i % 64 - k by omega, BitVec.getLsbD_of_ge _ _ (by omega)]
        simp
      · rw [decide_eq_false (show ¬ i ≥ k from h3)]; rfl
    · rw [show (i - k) / 64 = i / 64 by omega, show (i - k) % 64 = i % 64 - k by omega, decide_eq_true h, decide_eq_false h2, decide_eq_true (show i ≥ k by omega)]
      cases decide (i / 64 < n) <;> simp
  · rw [decide_eq_false h]
    simp
theorem and_ones {X x Y : Nat} (hx : x < 18446744073709551616) : (18446744073709551616 * X + x) &&& (18446744073709551616 * Y + 4294967295) = 18446744073709551616 * (X &&& Y) + x % 4294967296 := by
  apply Nat.eq_of_testBit_eq
  intro i
  have hm : x % 4294967296 < 18446744073709551616 := by omega
  rw [Nat.testBit_and, pk_bit hx, pk_bit (by decide), pk_bit hm]
  split
  · rw [show (4294967295 : Nat) = 2 ^ 32 - 1 from rfl, Nat.testBit_two_pow_sub_one, show (4294967296 : Nat) = 2 ^ 32 from rfl, Nat.testBit_mod_two_pow, Bool.and_comm]
  · rw [Nat.testBit_and]
theorem pk_add : ∀ (n : Nat) (w v : Nat → BitVec 32), (pkF n w + pkF n v) &&& onesF n = pkF n fun j => w j + v j
  | 0, w, v => by simp [pkF, onesF]
  | n + 1, w, v => by
    have ih := pk_add n (fun j => w (j + 1)) (fun j => v (j + 1))
    have h1 := (w 0).isLt
    have h2 := (v 0).isLt
    show (18446744073709551616 * pkF n (fun j => w (j + 1)) + (w 0).toNat + (18446744073709551616 * pkF n (fun j => v (j + 1)) + (v 0).toNat)) &&& (18446744073709551616 * onesF n + 4294967295) = 18446744073709551616 * pkF n (fun j => w (j + 1) + v (j + 1)) + (w 0 + v 0).toNat
    rw [show 18446744073709551616 * pkF n (fun j => w (j + 1)) + (w 0).toNat + (18446744073709551616 * pkF n (fun j => v (j + 1)) + (v 0).toNat) = 18446744073709551616 * (pkF n (fun j => w (j + 1)) + pkF n (fun j => v (j + 1))) + ((w 0).toNat + (v 0).toNat) by omega]
    rw [and_ones (by omega), ih, BitVec.toNat_add]
theorem pk_get {n : Nat} (w : Nat → BitVec 32) {j : Nat} (hj : j < n) : pkF n w >>> (64 * j) % 4294967296 = (w j).toNat := by
  apply Nat.eq_of_testBit_eq
  intro i
  rw [show (4294967296 : Nat) = 2 ^ 32 from rfl, Nat.testBit_mod_two_pow, Nat.testBit_shiftRight, pkF_bit]
  by_cases h : i < 32
  · rw [show (64 * j + i) / 64 = j by omega, show (64 * j + i) % 64 = i by omega, decide_eq_true h, decide_eq_true hj]
    simp [BitVec.getLsbD]
  · rw [decide_eq_false h, Bool.false_and]
    symm
    exact Nat.testBit_lt_two_pow (Nat.lt_of_lt_of_le (w j).isLt (Nat.pow_le_pow_right (by decide) (by omega)))
end Go.Proofs.YtlljknmojafkoaaGreatDoor.TL
namespace Go.Proofs.YtlljknmojafkoaaGreatDoor.TL
/-- n places of x. -/
def rep : Nat → Nat → Nat
  | 0, _ => 0
  | n + 1, x => 18446744073709551616 * rep n x + x
theorem rep_pk : ∀ (n : Nat) (b : BitVec 32), rep n b.toNat = pkF n fun _ => b
  | 0, _ => rfl
  | n + 1, b => by rw [rep, pkF, rep_pk n b]
theorem mul_rep (k : Nat) : ∀ n, k * rep n 1 = rep n k
  | 0 => rfl
  | n + 1 => by rw [rep, rep, Nat.mul_add, ← mul_rep k n, Nat.mul_one, Nat.mul_left_comm]
theorem k_rep (n : Nat) (b : BitVec 32) : b.toNat * rep n 1 = pkF n fun _ => b := by rw [mul_rep, rep_pk]
def lAdd (M x y : Nat) : Nat := (x + y) &&& M
def lRot (M x a : Nat) : Nat := ((x <<< (32 - a)) ||| (x >>> a)) &&& M
def lShr (M x a : Nat) : Nat := (x >>> a) &&& M
def lLow (M a : Nat) : Nat := lRot M a 7 ^^^ lRot M a 18 ^^^ lShr M a 3
def lHigh (M a : Nat) : Nat := lRot M a 17 ^^^ lRot M a 19 ^^^ lShr M a 10
def rotr (x : BitVec 32) (a : Nat) : BitVec 32 := x <<< (32 - a) ||| x >>> a
def lowS (a : BitVec 32) : BitVec 32 := rotr a 7 ^^^ rotr a 18 ^^^ a >>> 3
def highS (a : BitVec 32) : BitVec 32 := rotr a 17 ^^^ rotr a 19 ^^^ a >>> 10
theorem lAdd_pk (n : Nat) (w v : Nat → BitVec 32) : lAdd (onesF n) (pkF n w) (pkF n v) = pkF n fun j => w j + v j := pk_add n w v
theorem lRot_pk (n a : Nat) (ha : a ≤ 32) (w : Nat → BitVec 32) : lRot (onesF n) (pkF n w) a = pkF n fun j => rotr (w j) a := by
  unfold lRot
  rw [Nat.and_or_distrib_right, pk_shl n _ (by omega), pk_shr n _ ha, pk_or]
  rfl
theorem lShr_pk (n a : Nat) (ha : a ≤ 32) (w : Nat → BitVec 32) : lShr (onesF n) (pkF n w) a = pkF n fun j => w j >>> a := pk_shr n a ha w
theorem lLow_pk (n : Nat) (w : Nat → BitVec 32) : lLow (onesF n) (pkF n w) = pkF n fun j => lowS (w j) := by
  unfold lLow
  rw [lRot_pk n 7 (by decide), lRot_pk n 18 (by decide), lShr_pk n 3 (by decide), pk_xor, pk_xor]
  rfl
theorem lHigh_pk (n : Nat) (w : Nat → BitVec 32) : lHigh (onesF n) (pkF n w) = pkF n fun j => highS (w j) := by
  unfold lHigh
  rw [lRot_pk n 17 (by decide), lRot_pk n 19 (by decide), lShr_pk n 10 (by decide), pk_xor, pk_xor]
  rfl
/-- The next word out of the last 16. -/
def nextW (M : Nat) (w : List Nat) : Nat := lAdd M (lAdd M (lAdd M (w.getD 0 0) (lLow M (w.getD 1 0))) (w.getD 9 0)) (lHigh M (w.getD 14 0))
def nextS (w : List (BitVec 32)) : BitVec 32 := w.getD 0 0 + lowS (w.getD 1 0) + w.getD 9 0 + highS (w.getD 14 0)
def goN (M R : Nat) : List Nat → List Nat → Nat → Nat → Nat → Nat → Nat → Nat → Nat → Nat → List Nat
  | [], _, a, b, c, d, e, f, g, h => [a, b, c, d, e, f, g, h]
  | k :: ks, w, a, b, c, d, e, f, g, h =>
    let t1 := lAdd M (lAdd M (lAdd M (lAdd M h (lRot M e 6 ^^^ lRot M e 11 ^^^ lRot M e 25)) ((e &&& f) ^^^ ((e ^^^ M) &&& g))) (k * R)) (w.getD 0 0)
    goN M R ks (w.tail ++ [nextW M w]) (lAdd M (lAdd M t1 (lRot M a 2 ^^^ lRot M a 13 ^^^ lRot M a 22)) ((a &&& b) ^^^ (a &&& c) ^^^ (b &&& c))) a b c (lAdd M d t1) e f g
def goS : List (BitVec 32) → List (BitVec 32) → BitVec 32 → BitVec 32 → BitVec 32 → BitVec 32 → BitVec 32 → BitVec 32 → BitVec 32 → BitVec 32 → List (BitVec 32)
  | [], _, a, b, c, d, e, f, g, h => [a, b, c, d, e, f, g, h]
  | k :: ks, w, a, b, c, d, e, f, g, h =>
    let t1 := h + (rotr e 6 ^^^ rotr e 11 ^^^ rotr e 25) + ((e &&& f) ^^^ (~~~ e &&& g)) + k + w.getD 0 0
    goS ks (w.tail ++ [nextS w]) (t1 + (rotr a 2 ^^^ rotr a 13 ^^^ rotr a 22) + ((a &&& b) ^^^ (a &&& c) ^^^ (b &&& c))) a b c (d + t1) e f g
theorem pk_zero : ∀ n, pkF n (fun _ => 0#32) = 0
  | 0 => rfl
  | n + 1 => by rw [pkF, pk_zero n]; rfl
theorem getD_pk (n : Nat) : ∀ (w : List (Nat → BitVec 32)) (i : Nat), (w.map (pkF n)).getD i 0 = pkF n fun j => (w.map (· j)).getD i 0#32
  | [], i => by simp [pk_zero]
  | x :: w, 0 => rfl
  | x :: w, i + 1 => by
    have := getD_pk n w i
    simpa using this
theorem nextW_pk (n : Nat) (w : List (Nat → BitVec 32)) : nextW (onesF n) (w.map (pkF n)) = pkF n fun j => nextS (w.map (· j)) := by
  unfold nextW nextS
  rw [getD_pk, getD_pk, getD_pk, getD_pk, lLow_pk, lHigh_pk, lAdd_pk, lAdd_pk, lAdd_pk]
  rfl
theorem goN_pk (n : Nat) : ∀ (ks : List (BitVec 32)) (w : List (Nat → BitVec 32)) (a b c d e f g h : Nat → BitVec 32),
    goN (onesF n) (rep n 1) (ks.map BitVec.toNat) (w.map (pkF n)) (pkF n a) (pkF n b) (pkF n c) (pkF n d) (pkF n e) (pkF n f) (pkF n g) (pkF n h) =
      (List.range 8).map fun i => pkF n fun j => (goS ks (w.map (· j)) (a j) (b j) (c j) (d j) (e j) (f j) (g j) (h j)).getD i 0
  | [], w, a, b, c, d, e, f, g, h => rfl
  | k :: ks, w, a, b, c, d, e, f, g, h => by
    have ih := goN_pk n ks (w.tail ++ [fun j => nextS (w.map (· j))])
    rw [List.map_cons, goN]
    simp only [lRot_pk n 6 (by decide), lRot_pk n 11 (by decide), lRot_pk n 25 (by decide), lRot_pk n 2 (by decide), lRot_pk n 13 (by decide), lRot_pk n 22 (by decide), pk_xor, pk_and, pk_not, k_rep, getD_pk, lAdd_pk, nextW_pk]
    rw [show (w.map (pkF n)).tail ++ [pkF n fun j => nextS (w.map (· j))] = (w.tail ++ [fun j => nextS (w.map (· j))]).map (pkF n) by rw [List.map_append, List.map_tail]; rfl]
    rw [ih]
    refine List.map_congr_left fun i _ => ?_
    congr 1
    funext j
    rw [goS, show (w.map (· j)).tail ++ [nextS (w.map (· j))] = (w.tail ++ [fun j => nextS (w.map (· j))]).map (· j) by rw [List.map_append, List.map_tail]; rfl]
    rfl
end Go.Proofs.YtlljknmojafkoaaGreatDoor.TL
namespace Go.Proofs.YtlljknmojafkoaaGreatDoor
open Go.RowKit TL
theorem rot_7 (x : BitVec 32) : rot x (-7) = rotr x 7 := rfl
theorem rot_17 (x : BitVec 32) : rot x (-17) = rotr x 17 := rfl
theorem rot_18 (x : BitVec 32) : rot x (-18) = rotr x 18 := rfl
theorem rot_19 (x : BitVec 32) : rot x (-19) = rotr x 19 := rfl
theorem low_S (x : BitVec 32) : low x = lowS x := by unfold low lowS; rw [rot_7, rot_18]
theorem high_S (x : BitVec 32) : high x = highS x := by unfold high highS; rw [rot_17, rot_19]
theorem sched_at (p : List (BitVec 8)) : ∀ (m i : Nat), i < m → m ≤ 64 → (sched p m).getD i 0 = wordStep p i (sched p i)
  | 0, i, h, _ => by omega
  | m + 1, i, h, hm => by
    have hl := sched_len p m
    rw [sched, List.getD_eq_getElem?_getD, List.getElem?_set]
    by_cases he : m = i
    · subst he
      rw [if_pos rfl, if_pos (by omega)]
      rfl
    · rw [if_neg he, ← List.getD_eq_getElem?_getD]
      exact sched_at p m i (by omega) (by omega)
theorem sched_pre (p : List (BitVec 8)) {m i : Nat} (h : i < m) (hm : m ≤ 64) : (sched p m).getD i 0 = (sched p 64).getD i 0 := by
  rw [sched_at p m i h hm, sched_at p 64 i (by omega) (by omega)]
theorem sched_16 (p : List (BitVec 8)) {i : Nat} (h : i < 16) : (sched p 64).getD i 0 = wordAt p (4 * i) := by
  rw [sched_at p 64 i (by omega) (by omega), wordStep, if_pos h]
theorem sched_rec (p : List (BitVec 8)) {i : Nat} (h : i + 16 < 64) : (sched p 64).getD (i + 16) 0 = (sched p 64).getD i 0 + lowS ((sched p 64).getD (i + 1) 0) + (sched p 64).getD (i + 9) 0 + highS ((sched p 64).getD (i + 14) 0) := by
  rw [sched_at p 64 (i + 16) h (by omega), wordStep, if_neg (by omega), low_S, high_S, show i + 16 - 16 = i by omega, show i + 16 - 15 = i + 1 by omega, show i + 16 - 7 = i + 9 by omega, show i + 16 - 2 = i + 14 by omega,
    sched_pre p (show i < i + 16 by omega) (by omega), sched_pre p (show i + 1 < i + 16 by omega) (by omega), sched_pre p (show i + 9 < i + 16 by omega) (by omega), sched_pre p (show i + 14 < i + 16 by omega) (by omega)]
theorem turnStep_8 (w : List (BitVec 32)) (i : Nat) (a b c d e f g h : BitVec 32) : turnStep w i [a, b, c, d, e, f, g, h] =
    [(h + (rotr e 6 ^^^ rotr e 11 ^^^ rotr e 25) + ((e &&& f) ^^^ (~~~ e &&& g)) + kW.getD i 0 + w.getD i 0) + (rotr a 2 ^^^ rotr a 13 ^^^ rotr a 22) + ((a &&& b) ^^^ (a &&& c) ^^^ (b &&& c)), a, b, c,
      d + (h + (rotr e 6 ^^^ rotr e 11 ^^^ rotr e 25) + ((e &&& f) ^^^ (~~~ e &&& g)) + kW.getD i 0 + w.getD i 0), e, f, g] := rfl
theorem win_tail {w : List (BitVec 32)} (hl : w.length = 16) (x : BitVec 32) {k : Nat} (hk : k < 16) : (w.tail ++ [x]).getD k 0 = if k = 15 then x else w.getD (k + 1) 0 := by
  rw [List.getD_eq_getElem?_getD, List.getElem?_append]
  have htl : w.tail.length = 15 := by rw [List.length_tail, hl]
  split
  · rename_i h
    rw [if_neg (by omega), List.getElem?_tail, ← List.getD_eq_getElem?_getD]
  · rename_i h
    rw [if_pos (by omega), show k - w.tail.length = 0 by omega]
    rfl
theorem go_turn (p : List (BitVec 8)) (h0 : List (BitVec 32)) : ∀ (m i : Nat), i + m = 64 → ∀ w : List (BitVec 32), w.length = 16 → (∀ k, k < 16 → i + k < 64 → w.getD k 0 = (sched p 64).getD (i + k) 0) → ∀ a b c d e f g h, turnUpto p h0 i = [a, b, c, d, e, f, g, h] → goS (kW.drop i) w a b c d e f g h = turnUpto p h0 64
  | 0, i, hi, w, hw, hk, a, b, c, d, e, f, g, h, ht => by
    have : i = 64 := by omega
    subst this
    rw [show kW.drop 64 = [] from rfl, ht]
    rfl
  | m + 1, i, hi, w, hw, hk, a, b, c, d, e, f, g, h, ht => by
    have hlt : i < kW.length := by rw [kW_len]; omega
    rw [List.drop_eq_getElem_cons hlt, goS]
    have hkw : kW[i] = kW.getD i 0 := by rw [List.getD_eq_getElem?_getD, List.getElem?_eq_getElem hlt]; rfl
    have hw0 := hk 0 (by omega) (by omega)
    rw [Nat.add_zero] at hw0
    rw [hkw, hw0]
    refine go_turn p h0 m (i + 1) (by omega) _ (by simp [hw]) (fun k hk16 hk64 => ?_) _ _ _ _ _ _ _ _ (by rw [turnUpto, ht, turnStep_8])
    rw [win_tail hw _ hk16]
    split
    · rename_i h15
      subst h15
      rw [show i + 1 + 15 = i + 16 by omega, sched_rec p (by omega), nextS, hw0, hk 1 (by omega) (by omega), hk 9 (by omega) (by omega), hk 14 (by omega) (by omega)]
    · rw [hk (k + 1) (by omega) (by omega)]
      congr 1
      omega
end Go.Proofs.YtlljknmojafkoaaGreatDoor
namespace Go.Proofs.YtlljknmojafkoaaGreatDoor
open Go.RowKit TL
def first16 (p : List (BitVec 8)) : List (BitVec 32) := (List.range 16).map fun k => wordAt p (4 * k)
/-- One block's sum. -/
def oneS (w : List (BitVec 32)) : List (BitVec 32) := List.zipWith (· + ·) fW (goS kW w (fW.getD 0 0) (fW.getD 1 0) (fW.getD 2 0) (fW.getD 3 0) (fW.getD 4 0) (fW.getD 5 0) (fW.getD 6 0) (fW.getD 7 0))
theorem goS_len : ∀ (ks w : List (BitVec 32)) (a b c d e f g h : BitVec 32), (goS ks w a b c d e f g h).length = 8
  | [], _, _, _, _, _, _, _, _, _ => rfl
  | k :: ks, w, a, b, c, d, e, f, g, h => by rw [goS]; exact goS_len ks _ _ _ _ _ _ _ _ _
theorem list8 {l : List (BitVec 32)} (h : l.length = 8) : ∃ a b c d e f g k, l = [a, b, c, d, e, f, g, k] := by
  match l, h with
  | [a, b, c, d, e, f, g, k], _ => exact ⟨a, b, c, d, e, f, g, k, rfl⟩
theorem add8 (a b : List (BitVec 32)) (ha : a.length = 8) (hb : b.length = 8) : addUpto a b 8 = List.zipWith (· + ·) a b := by
  obtain ⟨a0, a1, a2, a3, a4, a5, a6, a7, rfl⟩ := list8 ha
  obtain ⟨b0, b1, b2, b3, b4, b5, b6, b7, rfl⟩ := list8 hb
  rfl
theorem turn_one (p : List (BitVec 8)) : turn fW p = oneS (first16 p) := by
  unfold turn oneS
  have h := go_turn p fW 64 0 rfl (first16 p) rfl (fun k h16 h64 => by
    rw [Nat.zero_add, sched_16 p h16, first16, List.getD_eq_getElem?_getD, List.getElem?_map, List.getElem?_range h16]
    rfl) _ _ _ _ _ _ _ _ rfl
  rw [List.drop_zero] at h
  rw [← h, add8 _ _ fW_len (goS_len _ _ _ _ _ _ _ _ _ _)]
  rfl
theorem oneS_len (w : List (BitVec 32)) : (oneS w).length = 8 := by
  unfold oneS
  rw [List.length_zipWith, goS_len]
  rfl
theorem sha_one {p : List (BitVec 8)} (h : (padding p).length = 64) : sha p = wordsB (oneS (first16 (padding p))) := by
  unfold sha
  rw [h]
  show wordsB (turn fW ((padding p).take 64)) = _
  rw [List.take_of_length_le (by omega), turn_one]
def shw (x y : BitVec 32) : BitVec 32 := x <<< 16 ||| y >>> 16
theorem glue (x y : BitVec 32) : (BitVec.setWidth 32 ((x >>> 8).setWidth 8)) <<< 24 ||| (BitVec.setWidth 32 (x.setWidth 8)) <<< 16 ||| (BitVec.setWidth 32 ((y >>> 24).setWidth 8)) <<< 8 ||| (BitVec.setWidth 32 ((y >>> 16).setWidth 8)) = shw x y := by
  apply BitVec.eq_of_getLsbD_eq
  intro i hi
  unfold shw
  simp only [BitVec.getLsbD_or, BitVec.getLsbD_shiftLeft, BitVec.getLsbD_setWidth, BitVec.getLsbD_ushiftRight]
  by_cases h1 : i < 8
  · simp [h1, show i < 32 by omega, show i < 16 by omega, show i < 24 by omega]
  by_cases h2 : i < 16
  · simp [h1, h2, show i < 32 by omega, show i < 24 by omega, show i - 8 < 8 by omega, show i - 8 < 32 by omega, show 24 + (i - 8) = 16 + i by omega]
  by_cases h3 : i < 24
  · simp [h1, h2, h3, show i < 32 by omega, show ¬ i - 8 < 8 by omega, show i - 16 < 8 by omega, show i - 16 < 32 by omega, show y.getLsbD (16 + i) = false from BitVec.getLsbD_of_ge _ _ (by omega)]
  · simp [h1, h2, h3, show i < 32 by omega, show ¬ i - 8 < 8 by omega, show ¬ i - 16 < 8 by omega, show i - 24 < 8 by omega, show i - 24 < 32 by omega, show 8 + (i - 24) = i - 16 by omega, show y.getLsbD (16 + i) = false from BitVec.getLsbD_of_ge _ _ (by omega)]
end Go.Proofs.YtlljknmojafkoaaGreatDoor
namespace Go.Proofs.YtlljknmojafkoaaGreatDoor
open Go.RowKit TL
def innW (x : BitVec 32) : List (BitVec 32) := [x, 0, 0, 0, 0, 0, 0, 0, 0, 0, 0, 0, 0, 0, 0, 16]
def outW (h : List (BitVec 32)) : List (BitVec 32) := [shw 32 (h.getD 0 0), shw (h.getD 0 0) (h.getD 1 0), shw (h.getD 1 0) (h.getD 2 0), shw (h.getD 2 0) (h.getD 3 0), shw (h.getD 3 0) (h.getD 4 0), shw (h.getD 4 0) (h.getD 5 0), shw (h.getD 5 0) (h.getD 6 0), shw (h.getD 6 0) (h.getD 7 0), shw (h.getD 7 0) 0, 0x016e8000, 0, 0, 0, 0, 0, 304]
def w0 (i n : BitVec 8) : BitVec 32 := wordAt (padding [i, n]) 0
theorem inn_words (i n : BitVec 8) : first16 (padding [i, n]) = innW (w0 i n) := by kernel_rfl
theorem sha_inn (i n : BitVec 8) : sha [i, n] = wordsB (oneS (innW (w0 i n))) := by
  rw [sha_one (by kernel_rfl), inn_words]
theorem out_pad (a b c d e f g k : BitVec 32) : padding (text2 (wordsB [a, b, c, d, e, f, g, k]) ++ texts2 [] ++ text2 [110#8]) = [0#8, 32#8, (a >>> 24).setWidth 8, (a >>> 16).setWidth 8, (a >>> 8).setWidth 8, a.setWidth 8, (b >>> 24).setWidth 8, (b >>> 16).setWidth 8, (b >>> 8).setWidth 8, b.setWidth 8, (c >>> 24).setWidth 8, (c >>> 16).setWidth 8, (c >>> 8).setWidth 8, c.setWidth 8, (d >>> 24).setWidth 8, (d >>> 16).setWidth 8, (d >>> 8).setWidth 8, d.setWidth 8, (e >>> 24).setWidth 8, (e >>> 16).setWidth 8, (e >>> 8).setWidth 8, e.setWidth 8, (f >>> 24).setWidth 8, (f >>> 16).setWidth 8, (f >>> 8).setWidth 8, f.setWidth 8, (g >>> 24).setWidth 8, (g >>> 16).setWidth 8, (g >>> 8).setWidth 8, g.setWidth 8, (k >>> 24).setWidth 8, (k >>> 16).setWidth 8, (k >>> 8).setWidth 8, k.setWidth 8, 0#8, 0#8, 1#8, 110#8, 128#8, 0#8, 0#8, 0#8, 0#8, 0#8, 0#8, 0#8, 0#8, 0#8, 0#8, 0#8, 0#8, 0#8, 0#8, 0#8, 0#8, 0#8, 0#8, 0#8, 0#8, 0#8, 0#8, 0#8, 1#8, 48#8] := by kernel_rfl
theorem first16_mk (p : List (BitVec 8)) : first16 p = [wordAt p 0, wordAt p 4, wordAt p 8, wordAt p 12, wordAt p 16, wordAt p 20, wordAt p 24, wordAt p 28, wordAt p 32, wordAt p 36, wordAt p 40, wordAt p 44, wordAt p 48, wordAt p 52, wordAt p 56, wordAt p 60] := rfl
set_option maxRecDepth 100000 in
theorem out_words {h : List (BitVec 32)} (hl : h.length = 8) : (padding (text2 (wordsB h) ++ texts2 [] ++ text2 [110#8])).length = 64 ∧ first16 (padding (text2 (wordsB h) ++ texts2 [] ++ text2 [110#8])) = outW h := by
  obtain ⟨a, b, c, d, e, f, g, k, rfl⟩ := list8 hl
  rw [out_pad]
  refine ⟨rfl, ?_⟩
  rw [first16_mk]
  unfold outW
  simp only [List.getD_cons_zero, List.getD_cons_succ, wordAt, glue, Nat.reduceAdd]
  rw [← glue 32 a, ← glue k 0]
  simp only [List.cons.injEq, and_true, true_and]
  exact ⟨rfl, rfl, by decide, by decide, by decide, by decide, by decide, by decide, by decide⟩
end Go.Proofs.YtlljknmojafkoaaGreatDoor
namespace Go.Proofs.YtlljknmojafkoaaGreatDoor
open Go.RowKit TL
/-- Word 3 of the outer digest. -/
def d3 (x : BitVec 32) : BitVec 32 := (oneS (outW (oneS (innW x)))).getD 3 0
def kN : List Nat := kW.map BitVec.toNat
def fN (i : Nat) : Nat := (fW.getD i 0).toNat
def oneN (M R : Nat) (w : List Nat) : List Nat := List.zipWith (lAdd M) [fN 0 * R, fN 1 * R, fN 2 * R, fN 3 * R, fN 4 * R, fN 5 * R, fN 6 * R, fN 7 * R] (goN M R kN w (fN 0 * R) (fN 1 * R) (fN 2 * R) (fN 3 * R) (fN 4 * R) (fN 5 * R) (fN 6 * R) (fN 7 * R))
theorem fN_pk (n i : Nat) : fN i * rep n 1 = pkF n fun _ => fW.getD i 0 := k_rep n _
theorem oneN_pk (n : Nat) (w : List (Nat → BitVec 32)) : oneN (onesF n) (rep n 1) (w.map (pkF n)) = (List.range 8).map fun i => pkF n fun j => (oneS (w.map (· j))).getD i 0 := by
  unfold oneN kN
  simp only [fN_pk]
  rw [goN_pk]
  have hz : ∀ j, oneS (w.map (· j)) = List.zipWith (· + ·) fW (goS kW (w.map (· j)) (fW.getD 0 0) (fW.getD 1 0) (fW.getD 2 0) (fW.getD 3 0) (fW.getD 4 0) (fW.getD 5 0) (fW.getD 6 0) (fW.getD 7 0)) := fun j => rfl
  have hg : ∀ i j, i < 8 → (oneS (w.map (· j))).getD i 0 = fW.getD i 0 + (goS kW (w.map (· j)) (fW.getD 0 0) (fW.getD 1 0) (fW.getD 2 0) (fW.getD 3 0) (fW.getD 4 0) (fW.getD 5 0) (fW.getD 6 0) (fW.getD 7 0)).getD i 0 := fun i j hi => by
    rw [hz]
    have hl := goS_len kW (w.map (· j)) (fW.getD 0 0) (fW.getD 1 0) (fW.getD 2 0) (fW.getD 3 0) (fW.getD 4 0) (fW.getD 5 0) (fW.getD 6 0) (fW.getD 7 0)
    obtain ⟨b0, b1, b2, b3, b4, b5, b6, b7, hb⟩ := list8 hl
    rw [hb]
    rcases (show i = 0 ∨ i = 1 ∨ i = 2 ∨ i = 3 ∨ i = 4 ∨ i = 5 ∨ i = 6 ∨ i = 7 by omega) with rfl | rfl | rfl | rfl | rfl | rfl | rfl | rfl <;> rfl
  show [lAdd _ _ _, lAdd _ _ _, lAdd _ _ _, lAdd _ _ _, lAdd _ _ _, lAdd _ _ _, lAdd _ _ _, lAdd _ _ _] = [pkF n _, pkF n _, pkF n _, pkF n _, pkF n _, pkF n _, pkF n _, pkF n _]
  simp only [lAdd_pk, hg _ _ (show 0 < 8 by decide), hg _ _ (show 1 < 8 by decide), hg _ _ (show 2 < 8 by decide), hg _ _ (show 3 < 8 by decide), hg _ _ (show 4 < 8 by decide), hg _ _ (show 5 < 8 by decide), hg _ _ (show 6 < 8 by decide), hg _ _ (show 7 < 8 by decide)]
def shwN (M x y : Nat) : Nat := ((x <<< 16) ||| (y >>> 16)) &&& M
theorem shwN_pk (n : Nat) (w v : Nat → BitVec 32) : shwN (onesF n) (pkF n w) (pkF n v) = pkF n fun j => shw (w j) (v j) := by
  unfold shwN
  rw [Nat.and_or_distrib_right, pk_shl n 16 (by decide), pk_shr n 16 (by decide), pk_or]
  rfl
def innN (R x : Nat) : List Nat := [x, 0, 0, 0, 0, 0, 0, 0, 0, 0, 0, 0, 0, 0, 0, 16 * R]
theorem innN_pk (n : Nat) (w : Nat → BitVec 32) : innN (rep n 1) (pkF n w) = List.map (pkF n) [w, fun _ => 0, fun _ => 0, fun _ => 0, fun _ => 0, fun _ => 0, fun _ => 0, fun _ => 0, fun _ => 0, fun _ => 0, fun _ => 0, fun _ => 0, fun _ => 0, fun _ => 0, fun _ => 0, fun _ => 16] := by
  have h0 : pkF n (fun _ => 0) = 0 := pk_zero n
  have h16 : 16 * rep n 1 = pkF n fun _ => 16 := k_rep n 16
  simp only [innN, List.map_cons, List.map_nil, h0, h16]
def outN (M R : Nat) (h : List Nat) : List Nat := [shwN M (32 * R) (h.getD 0 0), shwN M (h.getD 0 0) (h.getD 1 0), shwN M (h.getD 1 0) (h.getD 2 0), shwN M (h.getD 2 0) (h.getD 3 0), shwN M (h.getD 3 0) (h.getD 4 0), shwN M (h.getD 4 0) (h.getD 5 0), shwN M (h.getD 5 0) (h.getD 6 0), shwN M (h.getD 6 0) (h.getD 7 0), shwN M (h.getD 7 0) 0, 0x016e8000 * R, 0, 0, 0, 0, 0, 304 * R]
theorem outN_pk (n : Nat) (f : Nat → Nat → BitVec 32) : outN (onesF n) (rep n 1) ((List.range 8).map fun i => pkF n (f i)) = List.map (pkF n) [fun j => shw 32 (f 0 j), fun j => shw (f 0 j) (f 1 j), fun j => shw (f 1 j) (f 2 j), fun j => shw (f 2 j) (f 3 j), fun j => shw (f 3 j) (f 4 j), fun j => shw (f 4 j) (f 5 j), fun j => shw (f 5 j) (f 6 j), fun j => shw (f 6 j) (f 7 j), fun j => shw (f 7 j) 0, fun _ => 0x016e8000, fun _ => 0, fun _ => 0, fun _ => 0, fun _ => 0, fun _ => 0, fun _ => 304] := by
  have h0 : pkF n (fun _ => 0) = 0 := pk_zero n
  have h1 : 32 * rep n 1 = pkF n fun _ => 32 := k_rep n 32
  have h2 : 0x016e8000 * rep n 1 = pkF n fun _ => 0x016e8000 := k_rep n 0x016e8000
  have h3 : 304 * rep n 1 = pkF n fun _ => 304 := k_rep n 304
  have hs : ∀ w, shwN (onesF n) (pkF n w) 0 = pkF n fun j => shw (w j) 0 := fun w => by rw [← h0, shwN_pk]
  have hr : ((List.range 8).map fun i => pkF n (f i)) = [pkF n (f 0), pkF n (f 1), pkF n (f 2), pkF n (f 3), pkF n (f 4), pkF n (f 5), pkF n (f 6), pkF n (f 7)] := rfl
  rw [hr]
  simp only [outN, List.getD_cons_zero, List.getD_cons_succ, List.map_cons, List.map_nil, h0, h1, h2, h3, shwN_pk, hs]
def d3N (M R x : Nat) : Nat := (oneN M R (outN M R (oneN M R (innN R x)))).getD 3 0
theorem d3N_pk (n : Nat) (w : Nat → BitVec 32) : d3N (onesF n) (rep n 1) (pkF n w) = pkF n fun j => d3 (w j) := by
  unfold d3N
  rw [innN_pk, oneN_pk, outN_pk, oneN_pk]
  rfl
end Go.Proofs.YtlljknmojafkoaaGreatDoor
namespace Go.Proofs.YtlljknmojafkoaaGreatDoor
open Go.RowKit TL
def lanes : Nat → Nat → List Nat
  | 0, _ => []
  | k + 1, x => x % 4294967296 :: lanes k (x >>> 64)
def notIn (x : Nat) : List Nat → Bool
  | [] => true
  | y :: l => match Nat.beq x y with | true => false | false => notIn x l
def dif : List Nat → Bool
  | [] => true
  | x :: l => match notIn x l with | true => dif l | false => false
def allDif : Nat → Nat → Bool
  | 0, _ => true
  | m + 1, x => match dif (lanes 65 x) with | true => allDif m (x >>> 4160) | false => false
theorem lanes_get : ∀ (k x i : Nat), i < k → (lanes k x)[i]? = some (x >>> (64 * i) % 4294967296)
  | 0, x, i, h => by omega
  | k + 1, x, 0, h => rfl
  | k + 1, x, i + 1, h => by
    rw [lanes, List.getElem?_cons_succ, lanes_get k _ i (by omega), ← Nat.shiftRight_add, show 64 + 64 * i = 64 * (i + 1) by omega]
theorem notIn_ok {x : Nat} : ∀ {l : List Nat}, notIn x l = true → x ∉ l
  | [], _, h => by cases h
  | y :: l, h, hm => by
    rw [notIn] at h
    split at h
    · cases h
    · rename_i hb
      rcases List.mem_cons.1 hm with e | e
      · subst e
        rw [Nat.beq_refl] at hb
        cases hb
      · exact notIn_ok h e
theorem dif_ok : ∀ {l : List Nat}, dif l = true → l.Nodup
  | [], _ => List.nodup_nil
  | x :: l, h => by
    rw [dif] at h
    split at h
    · rename_i hb
      exact List.nodup_cons.2 ⟨notIn_ok hb, dif_ok h⟩
    · cases h
theorem allDif_ok : ∀ (m x : Nat), allDif m x = true → ∀ q, q < m → ∀ i j, i < 65 → j < 65 → i ≠ j → x >>> (64 * (65 * q + i)) % 4294967296 ≠ x >>> (64 * (65 * q + j)) % 4294967296
  | 0, x, _, q, hq, _, _, _, _, _ => by omega
  | m + 1, x, h, q, hq, i, j, hi, hj, hij => by
    rw [allDif] at h
    split at h
    · rename_i hd
      cases q with
      | zero =>
        have hn := dif_ok hd
        intro e
        rw [Nat.mul_zero, Nat.zero_add, Nat.zero_add] at e
        have h1 := lanes_get 65 x i hi
        have h2 := lanes_get 65 x j hj
        rw [e, ← h2] at h1
        have hl : i < (lanes 65 x).length := by
          rcases Nat.lt_or_ge i (lanes 65 x).length with h | h
          · exact h
          · rw [List.getElem?_eq_none h, h2] at h1; cases h1
        exact hij ((List.getElem?_inj hl hn).1 h1)
      | succ q =>
        have := allDif_ok m _ h q (by omega) i j hi hj hij
        rwa [← Nat.shiftRight_add, ← Nat.shiftRight_add, show 4160 + 64 * (65 * q + i) = 64 * (65 * (q + 1) + i) by omega, show 4160 + 64 * (65 * q + j) = 64 * (65 * (q + 1) + j) by omega] at this
    · cases h
/-- The first word of the place j of the block b. -/
def wB (b j : Nat) : BitVec 32 := w0 (BitVec.ofNat 8 (j % 65)) (BitVec.ofNat 8 (32 * b + j / 65))
def evB (b : Nat) : Bool := allDif 32 (d3N (onesF 2080) (rep 2080 1) (pkF 2080 (wB b)))
theorem evB_ok {b : Nat} (h : evB b = true) {q i j : Nat} (hq : q < 32) (hi : i < 65) (hj : j < 65) (hij : i ≠ j) : d3 (w0 (BitVec.ofNat 8 i) (BitVec.ofNat 8 (32 * b + q))) ≠ d3 (w0 (BitVec.ofNat 8 j) (BitVec.ofNat 8 (32 * b + q))) := by
  unfold evB at h
  have h1 := allDif_ok 32 _ h q hq i j hi hj hij
  rw [d3N_pk, pk_get _ (show 65 * q + i < 2080 by omega), pk_get _ (show 65 * q + j < 2080 by omega)] at h1
  simp only [wB] at h1
  rw [show (65 * q + i) % 65 = i by omega, show (65 * q + j) % 65 = j by omega, show (65 * q + i) / 65 = q by omega, show (65 * q + j) / 65 = q by omega] at h1
  exact fun e => h1 (by rw [e])
set_option maxRecDepth 100000 in
theorem ev0 : evB 0 = true := by decide +kernel
end Go.Proofs.YtlljknmojafkoaaGreatDoor
namespace Go.Proofs.YtlljknmojafkoaaGreatDoor
open Go.RowKit TL
set_option maxRecDepth 100000 in
theorem ev1 : evB 1 = true := by decide +kernel
set_option maxRecDepth 100000 in
theorem ev2 : evB 2 = true := by decide +kernel
set_option maxRecDepth 100000 in
theorem ev3 : evB 3 = true := by decide +kernel
set_option maxRecDepth 100000 in
theorem ev4 : evB 4 = true := by decide +kernel
set_option maxRecDepth 100000 in
theorem ev5 : evB 5 = true := by decide +kernel
set_option maxRecDepth 100000 in
theorem ev6 : evB 6 = true := by decide +kernel
set_option maxRecDepth 100000 in
theorem ev7 : evB 7 = true := by decide +kernel
theorem d3_dif {n i j : Nat} (hn : n < 256) (hi : i < 65) (hj : j < 65) (hij : i ≠ j) : d3 (w0 (BitVec.ofNat 8 i) (BitVec.ofNat 8 n)) ≠ d3 (w0 (BitVec.ofNat 8 j) (BitVec.ofNat 8 n)) := by
  have key : ∀ b, b < 8 → evB b = true := fun b hb => by
    rcases (show b = 0 ∨ b = 1 ∨ b = 2 ∨ b = 3 ∨ b = 4 ∨ b = 5 ∨ b = 6 ∨ b = 7 by omega) with rfl | rfl | rfl | rfl | rfl | rfl | rfl | rfl
    · exact ev0
    · exact ev1
    · exact ev2
    · exact ev3
    · exact ev4
    · exact ev5
    · exact ev6
    · exact ev7
  have := evB_ok (key (n / 32) (by omega)) (q := n % 32) (by omega) hi hj hij
  rwa [show 32 * (n / 32) + n % 32 = n by omega] at this
end Go.Proofs.YtlljknmojafkoaaGreatDoor
namespace Go.Proofs.YtlljknmojafkoaaGreatDoor
open Go.RowKit TL
theorem b32_inj : ∀ x, x < 32 → ∀ y, y < 32 → b32.getD x 0#8 = b32.getD y 0#8 → x = y := by decide +kernel
theorem bitsN_inj (p q : Bs) (i : Nat) : ∀ k, bitsN p i k = bitsN q i k → ∀ j, j < k → bitN p (i + j) = bitN q (i + j)
  | 0, _, j, h => by omega
  | k + 1, e, j, h => by
    simp only [bitsN] at e
    have h1 := bitN_lt p (i + k)
    have h2 := bitN_lt q (i + k)
    rcases Nat.lt_or_ge j k with hj | hj
    · exact bitsN_inj p q i k (by omega) j hj
    · rw [show j = k by omega]; omega
theorem txtN_inj (p q : Bs) : ∀ J, txtN p J = txtN q J → ∀ j, j < J → bitsN p (5 * j) 5 = bitsN q (5 * j) 5
  | 0, _, j, h => by omega
  | J + 1, e, j, h => by
    rw [txtN, txtN] at e
    obtain ⟨e1, e2⟩ := List.append_inj e (by rw [txtN_len, txtN_len])
    rcases Nat.lt_or_ge j J with hj | hj
    · exact txtN_inj p q J e1 j hj
    · rw [show j = J by omega]
      exact b32_inj _ (bitsN_lt p _ 5) _ (bitsN_lt q _ 5) (by injection e2)
theorem byte_bits {x y : BitVec 8} (h : ∀ k, k < 8 → (x >>> (7 - k)).toNat % 2 = (y >>> (7 - k)).toNat % 2) : x = y := by
  refine BitVec.eq_of_getLsbD_eq fun i hi => ?_
  have := h (7 - i) (by omega)
  rw [show 7 - (7 - i) = i by omega, BitVec.toNat_ushiftRight, BitVec.toNat_ushiftRight, Nat.shiftRight_eq_div_pow, Nat.shiftRight_eq_div_pow] at this
  rw [BitVec.getLsbD, BitVec.getLsbD, Nat.testBit_eq_decide_div_mod_eq, Nat.testBit_eq_decide_div_mod_eq, this]
theorem txtS_byte {p q : Bs} (hp : p.length = 20) (hq : q.length = 20) (h : txtS p = txtS q) {m : Nat} (hm : m < 20) : p.getD m 0#8 = q.getD m 0#8 := by
  unfold txtS at h
  rw [hp, hq] at h
  refine byte_bits fun k hk => ?_
  have h1 := txtN_inj p q 32 h ((8 * m + k) / 5) (by omega)
  have h2 := bitsN_inj p q _ 5 h1 ((8 * m + k) % 5) (by omega)
  rw [show 5 * ((8 * m + k) / 5) + (8 * m + k) % 5 = 8 * m + k by omega] at h2
  unfold bitN at h2
  rw [show (8 * m + k) / 8 = m by omega, show (8 * m + k) % 8 = k by omega, if_pos (by omega), if_pos (by omega)] at h2
  exact h2
theorem word_bytes {x y : BitVec 32} (h : ∀ j, j < 4 → (wordB x).getD j 0#8 = (wordB y).getD j 0#8) : x = y := by
  have a0 : (x >>> 24).setWidth 8 = (y >>> 24).setWidth 8 := h 0 (by decide)
  have a1 : (x >>> 16).setWidth 8 = (y >>> 16).setWidth 8 := h 1 (by decide)
  have a2 : (x >>> 8).setWidth 8 = (y >>> 8).setWidth 8 := h 2 (by decide)
  have a3 : x.setWidth 8 = y.setWidth 8 := h 3 (by decide)
  apply BitVec.eq_of_toNat_eq
  have c0 := congrArg BitVec.toNat a0
  have c1 := congrArg BitVec.toNat a1
  have c2 := congrArg BitVec.toNat a2
  have c3 := congrArg BitVec.toNat a3
  simp only [BitVec.toNat_setWidth, BitVec.toNat_ushiftRight, Nat.shiftRight_eq_div_pow] at c0 c1 c2 c3
  have := x.isLt
  have := y.isLt
  omega
theorem wordsB_3 {h : List (BitVec 32)} (hl : h.length = 8) {j : Nat} (hj : j < 4) : (wordsB h).getD (12 + j) 0#8 = (wordB (h.getD 3 0)).getD j 0#8 := by
  obtain ⟨a, b, c, d, e, f, g, k, rfl⟩ := list8 hl
  rcases (show j = 0 ∨ j = 1 ∨ j = 2 ∨ j = 3 by omega) with rfl | rfl | rfl | rfl <;> rfl
theorem sha_3 (i n : BitVec 8) {j : Nat} (hj : j < 4) : (fold20 (sha (text2 (sha [i, n]) ++ texts2 [] ++ text2 [110#8]))).getD (12 + j) 0#8 = (wordB (d3 (w0 i n))).getD j 0#8 := by
  have e := fbs_get (sha (text2 (sha [i, n]) ++ texts2 [] ++ text2 [110#8])) 20 (12 + j) (by omega)
  rw [fb, if_neg (by omega), ← fold20_fbs] at e
  refine e.trans ?_
  rw [sha_inn]
  have hl := oneS_len (innW (w0 i n))
  obtain ⟨h1, h2⟩ := out_words hl
  rw [sha_one h1, h2]
  exact wordsB_3 (oneS_len _) hj
theorem mkP_dif {n i j : Nat} (hn : n < 256) (hi : i < 65) (hj : j < 65) (hij : i ≠ j) : mkP [110#8] [BitVec.ofNat 8 i, BitVec.ofNat 8 n] [] ≠ mkP [110#8] [BitVec.ofNat 8 j, BitVec.ofNat 8 n] [] := by
  intro e
  unfold mkP at e
  have h1 := List.append_cancel_right e
  refine d3_dif hn hi hj hij (word_bytes fun q hq => ?_)
  rw [← sha_3 _ _ hq, ← sha_3 _ _ hq]
  exact txtS_byte (fold20_len _) (fold20_len _) h1 (by omega)
end Go.Proofs.YtlljknmojafkoaaGreatDoor
namespace Go.Proofs.YtlljknmojafkoaaGreatDoor
open Go.RowKit TL
def rowI (n i : Nat) : RowM := rowOne [BitVec.ofNat 8 i, BitVec.ofNat 8 n]
def rowsF (n m : Nat) : List RowM := (List.range m).map (rowI n)
theorem rowsF_succ (n m : Nat) : rowsF n (m + 1) = rowsF n m ++ [rowI n m] := by
  unfold rowsF
  rw [List.range_succ, List.map_append]; rfl
theorem rowsF_len (n m : Nat) : (rowsF n m).length = m := by unfold rowsF; rw [List.length_map, List.length_range]
theorem rowsF_get {n m i : Nat} (h : i < m) : (rowsF n m).getD i default = rowI n i := by
  unfold rowsF
  rw [List.getD_eq_getElem?_getD, List.getElem?_map, List.getElem?_range h]; rfl
theorem rowsF_take (n m k : Nat) (h : k ≤ m) : (rowsF n m).take k = rowsF n k := by
  unfold rowsF
  rw [← List.map_take, List.take_range, Nat.min_eq_left h]
theorem rowsF_mem {n m : Nat} {r : RowM} (h : r ∈ rowsF n m) : ∃ i, i < m ∧ r = rowI n i := by
  obtain ⟨i, hi, rfl⟩ := List.mem_map.1 h
  exact ⟨i, List.mem_range.1 hi, rfl⟩
theorem rowI_mem {n m i : Nat} (h : i < m) : (rowI n i).path ∈ pathsOf (rowsF n m) := List.mem_map.2 ⟨_, List.mem_map.2 ⟨i, List.mem_range.2 h, rfl⟩, rfl⟩
theorem rowI_B (n i : Nat) : RowB (rowI n i) := rowOne_B _ (by show 2 ≤ _; decide)
theorem rowI_fits (n i : Nat) : fitsR (rowI n i) = true := rowOne_fits _
theorem rowI_dif {n i j : Nat} (hn : n < 256) (hi : i < 65) (hj : j < 65) (hij : i ≠ j) : (rowI n i).path ≠ (rowI n j).path := mkP_dif hn hi hj hij
theorem rowsF_nd {n : Nat} (hn : n < 256) {m : Nat} (hm : m ≤ 65) : (pathsOf (rowsF n m)).Nodup := by
  unfold pathsOf rowsF
  rw [List.map_map]
  refine List.pairwise_map.2 (List.nodup_range.imp_of_mem fun {a b} ha hb hab => ?_)
  have := List.mem_range.1 ha
  have := List.mem_range.1 hb
  exact rowI_dif hn (by omega) (by omega) hab
theorem putF_new (L : List RowM) : ∀ (l fr : List RowM), (∀ r ∈ l, fitsR r = true ∧ r.refs = []) → (pathsOf (L ++ fr ++ l)).Nodup → (L ++ fr).length + l.length ≤ 64 → putF L l fr = (0, fr ++ l)
  | [], fr, _, _, _ => by rw [List.append_nil]; rfl
  | r :: l, fr, h, hn, hl => by
    have h1 := h r (by simp)
    have h2 : hasP (L ++ fr) r.path = false := by
      cases hh : hasP (L ++ fr) r.path with
      | false => rfl
      | true =>
        rw [hasP_iff] at hh
        rw [pathsOf, List.map_append, List.nodup_append] at hn
        exact absurd rfl (hn.2.2 _ hh r.path (by simp))
    rw [List.length_cons] at hl
    rw [putF_cons, if_neg (by rw [h1.1]; simp), if_neg (by rw [h2]; simp), if_neg (by rw [h1.2]; simp), if_neg (by omega)]
    rw [putF_new L l (fr ++ [r]) (fun x hx => h x (List.mem_cons_of_mem _ hx)) (by rw [← List.append_assoc, List.append_assoc _ [r] l]; exact hn) (by simp only [List.length_append, List.length_singleton] at hl ⊢; omega)]
    rw [List.append_assoc]; rfl
theorem rowsF_ok {n m : Nat} : ∀ r ∈ rowsF n m, fitsR r = true ∧ r.refs = [] := fun r hr => by
  obtain ⟨i, _, rfl⟩ := rowsF_mem hr
  exact ⟨rowI_fits n i, rfl⟩
theorem full64 {n : Nat} (hn : n < 256) : putF [] (rowsF n 64) [] = (0, rowsF n 64) :=
  putF_new [] (rowsF n 64) [] rowsF_ok (rowsF_nd hn (by decide)) (by rw [rowsF_len]; exact Nat.le_refl _)
theorem over {n : Nat} (hn : n < 256) {L fr : List RowM} (h : L ++ fr = rowsF n 64) : (putF L [rowI n 64] fr).1 = 3 := by
  have h2 : hasP (L ++ fr) (rowI n 64).path = false := by
    cases hh : hasP (L ++ fr) (rowI n 64).path with
    | false => rfl
    | true =>
      rw [hasP_iff, h] at hh
      obtain ⟨r, hr, e⟩ := List.mem_map.1 hh
      obtain ⟨i, hi, rfl⟩ := rowsF_mem hr
      exact absurd e (rowI_dif hn (by omega) (by omega) (by omega))
  rw [putF_cons, if_neg (by rw [rowI_fits]; simp), if_neg (by rw [h2]; simp), if_neg (by show ¬ (List.all [] _ = false); simp), if_pos (by rw [h, rowsF_len]; exact Nat.le_refl _)]
theorem put65 {n : Nat} (hn : n < 256) : putM .new (rowsF n 65) = (.new, 3) := by
  refine putM_no .new _ ?_ (by decide)
  show (putF [] (rowsF n 65) []).1 = 3
  rw [rowsF_succ, putF_app [] _ _ [] (by rw [full64 hn]), full64 hn]
  exact over hn rfl
theorem put64a {R : List RowM} (h : putF [] R [] = (0, R)) (hne : R ≠ []) : (putM .new R).2 = 0 ∧ (putM .new R).1.L = R ∧ (putM .new R).1.roots = [] ∧ (putM .new R).1.ver = 1#64 := by
  obtain ⟨h1, h2, h3⟩ := putM_L .new R (by show (putF [] R []).1 = 0; rw [h])
  refine ⟨h1, ?_, h3, ?_⟩
  · refine h2.trans ?_
    show [] ++ (putF [] R []).2 = R
    rw [h]
    exact List.nil_append _
  · have e : putM .new R = (touchM { StM.new with L := StM.new.L ++ R, ver := StM.new.ver + 1#64 } (R.flatMap rowTouch), 0) := by
      have h' : putF StM.new.L R [] = (0, R) := h
      unfold putM
      rw [h', if_neg (by simp), if_neg hne]
    rw [e]
    show StM.new.ver + 1#64 = 1#64
    rfl
theorem neF (n : Nat) : rowsF n 64 ≠ [] := fun e => by
  have := rowsF_len n 64
  rw [e] at this
  exact absurd this (by decide)
theorem put64b {n : Nat} (hn : n < 256) : (putM .new (rowsF n 64)).2 = 0 ∧ (putM .new (rowsF n 64)).1.L = rowsF n 64 ∧ (putM .new (rowsF n 64)).1.roots = [] ∧ (putM .new (rowsF n 64)).1.ver = 1#64 := put64a (full64 hn) (neF n)
theorem put64 {n : Nat} (hn : n < 256) : ∃ M, putM .new (rowsF n 64) = (M, 0) ∧ M.L = rowsF n 64 ∧ M.roots = [] ∧ M.ver = 1#64 := by
  have h := put64b hn
  generalize putM .new (rowsF n 64) = pr at h ⊢
  obtain ⟨M, e⟩ := pr
  obtain ⟨h1, h2⟩ := h
  exact ⟨M, by rw [show e = 0 from h1], h2⟩
theorem put_1 {n : Nat} (hn : n < 256) {M : StM} (h : M.L = rowsF n 64) : putM M [rowI n 64] = (M, 3) :=
  putM_no M _ (over hn (by rw [List.append_nil]; exact h)) (by decide)
theorem put_3 {n : Nat} {M : StM} (h : M.L = rowsF n 64) : putM M (rowsF n 3) = (M, 0) := by
  have h1 := putF_skip (L := M.L) (rowsF n 3) (b := []) (fr := []) fun r hr => ⟨(rowsF_ok r hr).1, by
    obtain ⟨i, hi, rfl⟩ := rowsF_mem hr
    rw [List.append_nil, hasP_iff, h]
    exact rowI_mem (by omega)⟩
  rw [List.append_nil] at h1
  have h2 : putF M.L [] [] = (0, []) := rfl
  unfold putM
  rw [h1, h2, if_neg (by simp), if_pos rfl]
/-- Some rows are roots: the first i. -/
structure RootsI (n : Nat) (M : StM) (i : Nat) : Prop where
  inv : Inv M
  l : M.L = rowsF n 64
  r : ∀ q, q ∈ M.roots ↔ q ∈ pathsOf (rowsF n i)
theorem same_len {α : Type} {a b : List α} (ha : a.Nodup) (hb : b.Nodup) (h : ∀ q, q ∈ a ↔ q ∈ b) : a.length = b.length :=
  Nat.le_antisymm (nodup_len ha fun x hx => (h x).1 hx) (nodup_len hb fun x hx => (h x).2 hx)
theorem filter_two {α : Type} (f : α → Bool) : ∀ l : List α, (l.filter f).length + (l.filter fun x => !f x).length = l.length
  | [] => rfl
  | x :: l => by
    have := filter_two f l
    rw [List.filter_cons, List.filter_cons]
    cases f x <;> simp <;> omega
section
variable {n i : Nat} {M : StM}
theorem RootsI.len (hn : n < 256) (h : RootsI n M i) (hi : i ≤ 65) : M.roots.length = i := by
  rw [same_len (ris_nodup h.inv.wf.rs) (rowsF_nd hn hi) h.r, pathsOf, List.length_map, rowsF_len]
theorem RootsI.has (h : RootsI n M i) {j : Nat} (hj : j < 64) : hasP M.L (rowI n j).path = true := by
  rw [hasP_iff, h.l]; exact rowI_mem hj
theorem RootsI.root (hn : n < 256) (h : RootsI n M i) (hi : i < 16) : (rootM M (rowI n i).path).2 = 0 ∧ RootsI n (rootM M (rowI n i).path).1 (i + 1) := by
  have hiv := h.inv.root (rowI n i).path
  have hnot : (rowI n i).path ∉ M.roots := by
    rw [h.r]
    intro e
    obtain ⟨r, hr, e⟩ := List.mem_map.1 e
    obtain ⟨j, hj, rfl⟩ := rowsF_mem hr
    exact rowI_dif hn (by omega) (by omega) (by omega) e
  have e : rootM M (rowI n i).path = (touchM { M with roots := riseL (M.roots ++ [(rowI n i).path]), ver := M.ver + 1#64 } [(rowI n i).path], 0) := by
    unfold rootM
    rw [if_neg (by rw [h.has (by omega)]; simp), if_neg hnot, if_neg (by rw [h.len hn (by omega)]; omega)]
  refine ⟨by rw [e], hiv, by rw [e]; exact h.l, fun q => ?_⟩
  rw [e]
  show q ∈ riseL (M.roots ++ [(rowI n i).path]) ↔ _
  rw [riseL_mem, List.mem_append, h.r, rowsF_succ, pathsOf, pathsOf, List.map_append, List.mem_append]
  rfl
theorem RootsI.more (hn : n < 256) (h : RootsI n M 16) : rootM M (rowI n 16).path = (M, 3) := by
  unfold rootM
  rw [if_neg (by rw [h.has (by omega)]; simp), if_neg ?_, if_pos (by rw [h.len hn (by omega)]; exact Nat.le_refl _)]
  rw [h.r]
  intro e
  obtain ⟨r, hr, e⟩ := List.mem_map.1 e
  obtain ⟨j, hj, rfl⟩ := rowsF_mem hr
  exact rowI_dif hn (by omega) (by omega) (by omega) e
theorem RootsI.again (h : RootsI n M 16) : rootM M (rowI n 0).path = (M, 0) := by
  unfold rootM
  rw [if_neg (by rw [h.has (by omega)]; simp), if_pos ((h.r _).2 (rowI_mem (by omega)))]
theorem RootsI.live (h : RootsI n M 16) (q : Bs) : q ∈ reachL M.L M.roots ↔ q ∈ pathsOf (rowsF n 16) := by
  rw [(reachL_ok M.L M.roots).2 q, ← h.r]
  constructor
  · intro hq
    cases hq with
    | base h1 _ => exact h1
    | step h1 h2 _ =>
      obtain ⟨r, hr, rfl⟩ := List.mem_map.1 ((hasP_iff _ _).1 h1.has)
      rw [refsOf_mem h.inv.nd hr] at h2
      rw [h.l] at hr
      rw [(rowsF_ok r hr).2] at h2
      cases h2
  · exact fun hq => .base hq (h.inv.wf.rt q hq)
theorem RootsI.gone (hn : n < 256) (h : RootsI n M 16) : ((pathsOf M.L).filter fun p => !decide (p ∈ reachL M.L M.roots)).length = 48 := by
  have h1 : ((pathsOf M.L).filter fun p => decide (p ∈ reachL M.L M.roots)).length = 16 := by
    rw [same_len (h.inv.nd.sublist List.filter_sublist) (rowsF_nd hn (m := 16) (by omega)), pathsOf, List.length_map, rowsF_len]
    intro q
    rw [List.mem_filter, decide_eq_true_eq, h.live, h.l]
    refine ⟨fun e => e.2, fun e => ⟨?_, e⟩⟩
    obtain ⟨r, hr, rfl⟩ := List.mem_map.1 e
    obtain ⟨j, hj, rfl⟩ := rowsF_mem hr
    exact rowI_mem (by omega)
  have h2 := filter_two (fun p => decide (p ∈ reachL M.L M.roots)) (pathsOf M.L)
  have h3 : (pathsOf M.L).length = 64 := by rw [h.l, pathsOf, List.length_map, rowsF_len]
  omega
theorem RootsI.swept (hn : n < 256) (h : RootsI n M 16) : (sweepM M).2.length = 48 ∧ (riseL (pathsOf (sweepM M).1.L)).length = 16 := by
  have hg := h.gone hn
  have hl := h.live
  have hne : (pathsOf M.L).filter (fun p => !decide (p ∈ reachL M.L M.roots)) ≠ [] := fun e => by rw [e] at hg; cases hg
  have e : sweepM M = (cutM M ((pathsOf M.L).filter fun p => !decide (p ∈ reachL M.L M.roots)), riseL ((pathsOf M.L).filter fun p => !decide (p ∈ reachL M.L M.roots))) := by
    unfold sweepM
    rw [if_neg hne]
  have hiv := h.inv.sweep
  refine ⟨?_, ?_⟩
  · rw [e]
    rw [same_len (ris_nodup (riseL_ris _)) (h.inv.nd.sublist List.filter_sublist) (fun q => riseL_mem _ q), hg]
  · have hm : ∀ q, q ∈ riseL (pathsOf (sweepM M).1.L) ↔ q ∈ pathsOf (rowsF n 16) := fun q => by
      rw [riseL_mem, e]
      show q ∈ pathsOf (M.L.filter fun r => !decide (r.path ∈ _)) ↔ _
      constructor
      · intro hq
        obtain ⟨r, hr, rfl⟩ := List.mem_map.1 hq
        obtain ⟨hr1, hr2⟩ := List.mem_filter.1 hr
        refine Classical.byContradiction fun hc => ?_
        rw [Bool.not_eq_true', decide_eq_false_iff_not] at hr2
        refine hr2 (List.mem_filter.2 ⟨List.mem_map.2 ⟨r, hr1, rfl⟩, ?_⟩)
        rw [decide_eq_false (fun hx => hc ((hl _).1 hx))]; rfl
      · intro hq
        obtain ⟨r, hr, rfl⟩ := List.mem_map.1 hq
        obtain ⟨j, hj, rfl⟩ := rowsF_mem hr
        refine List.mem_map.2 ⟨rowI n j, List.mem_filter.2 ⟨?_, ?_⟩, rfl⟩
        · rw [h.l]; exact List.mem_map.2 ⟨j, List.mem_range.2 (by omega), rfl⟩
        · rw [Bool.not_eq_true', decide_eq_false_iff_not]
          intro hx
          have := (List.mem_filter.1 hx).2
          rw [Bool.not_eq_true', decide_eq_false_iff_not] at this
          exact this ((hl _).2 hq)
    rw [same_len (ris_nodup (riseL_ris _)) (rowsF_nd hn (m := 16) (by omega)) hm, pathsOf, List.length_map, rowsF_len]
end
end Go.Proofs.YtlljknmojafkoaaGreatDoor
namespace Go.Proofs.YtlljknmojafkoaaGreatDoor
open Go.RowKit TL
def rowZ (r : RowM) : D := .agg [.lit (.string (st r.path)), .lit (.string (st r.name)), .sl 1 (dB r.arc), .sl 0 []]
def dZ (l : List RowM) : List D := l.map rowZ
theorem dZ_len (l : List RowM) : (dZ l).length = l.length := List.length_map _
theorem dZ_app (a b : List RowM) : dZ (a ++ b) = dZ a ++ dZ b := List.map_append
theorem dZ_take (l : List RowM) (k : Nat) : (dZ l).take k = dZ (l.take k) := List.map_take.symm
theorem dZ_drop (l : List RowM) (k : Nat) : (dZ l).drop k = dZ (l.drop k) := List.map_drop.symm
theorem dZ_get {l : List RowM} {i : Nat} (h : i < l.length) : (dZ l).getD i default = rowZ (l.getD i default) := by
  rw [dZ, List.getD_eq_getElem?_getD, List.getElem?_map, List.getD_eq_getElem?_getD, List.getElem?_eq_getElem h]; rfl
theorem dZ_de : ∀ {l : List RowM}, (∀ r ∈ l, r.refs = []) → DeL (dZ l) (dR l)
  | [], _ => .nil
  | r :: l, h => by
    refine .cons ?_ (dZ_de fun x hx => h x (List.mem_cons_of_mem _ hx))
    unfold rowZ rowD
    rw [h r (by simp)]
    exact De.aggF (.cons (.refl _) (.cons (.refl _) (.cons (.refl _) (.cons (.sl0 _ _) .nil))))
theorem c_PutZ {S : TS} {s : Nat} {I : StI} {M : StM} {g : Tag} {l : List RowM} {K : TV → TS → Prop} (h : StOk S s I M) (hv : Inv M) (hf : ∀ r ∈ l, fitsR r = true ∧ r.refs = []) (hb : ∀ r ∈ l, RowB r) (hl : l.length ≤ 100000)
    (hK : ∀ S' I', StOk S' s I' (putM M l).1 → StTo S S' s I I' → K (.lit (.int .i64 (putM M l).2)) S') : TCall env 16 [.ptr s 0, .sl g 4 (dZ l)] S K :=
  .conv (b := [.ptr s 0, .sl .none 4 (dR l)]) (.cons (.refl _) (.cons (.sl _ (dZ_de fun r hr => (hf r hr).2)) .nil)) (c_Put h hv.nd hb (.inl rfl) hl hK)
theorem keep_to {S0 S S' : TS} {s : Nat} {I I' : StI} (hk : Keep S0 S) (hf : ∀ id, stF s I id → S0.n ≤ id) (t : StTo S S' s I I') : Keep S0 S' ∧ ∀ id, stF s I' id → S0.n ≤ id :=
  ⟨⟨Nat.le_trans hk.1 t.fr.n, fun id hid => by rw [t.fr.o id (Nat.lt_of_lt_of_le hid hk.1) (fun h => by have := hf id h; omega), hk.2 id hid]⟩, fun id h => (t.sub id h).elim (hf id) (fun h => Nat.le_trans hk.1 h)⟩
set_option maxRecDepth 8000 in
set_option maxHeartbeats 1000000 in
theorem c_DbFull {n : BitVec 8} {S : TS} {K : TV → TS → Prop} (hK : K (.lit (.bool true)) S) : TCall env 3 [.lit (w8 n)] S K := by
  refine TCall.toPure (r := .lit (.bool true)) ?_ hK
  refine TCall.w 113 [.tmp 2] Tryz.func3 rfl rfl rfl rfl (by kernel_rfl) rfl ?_
  simp -implicitDefEqProofs (disch := omega) only [seval, go_sem]
  refine c_fresh10 ?_
  simp -implicitDefEqProofs (disch := omega) only [seval, go_sem]
  refine c_Store_new fun S1 s I h1 hf1 hk1 => ?_
  simp -implicitDefEqProofs (disch := omega) only [seval, go_sem]
  refine c_r10_New ?_
  simp -implicitDefEqProofs (disch := omega) only [seval, go_sem, refV_mk]
  have hoT : (S1.push (.cells 27 [.sl .none 1 (gD fW), .sl .none 1 (gD kW)])).objs S1.n = .cells 27 [.sl .none 1 (gD fW), .sl .none 1 (gD kW)] := push_self _ _
  have hkT : Keep S1 (S1.push (.cells 27 [.sl .none 1 (gD fW), .sl .none 1 (gD kW)])) := Keep.push _ _
  have hnT : S1.n < (S1.push (.cells 27 [.sl .none 1 (gD fW), .sl .none 1 (gD kW)])).n := Nat.lt_succ_self _
  generalize S1.push (.cells 27 [.sl .none 1 (gD fW), .sl .none 1 (gD kW)]) = S2 at *
  have hn := n.isLt
  have hnn : BitVec.ofNat 8 n.toNat = n := BitVec.ofNat_toNat 8 n
  refine loW.asRow 5 4 rfl (.inl rfl) ?_
  refine loW_inv (fun q T S' => ∃ i k : Nat, q + i = 65 ∧ T 0 = .lit (w8 n) ∧ T 3 = .ptr s 0 ∧ T 4 = .ptr S1.n 0 ∧ T 5 = .sl (.own k) 4 (dZ (rowsF n.toNat i)) ∧ T 6 = .lit (.int .i64 (i : Int)) ∧ S'.objs S1.n = .cells 27 [.sl .none 1 (gD fW), .sl .none 1 (gD kW)] ∧ S'.objs k = .lin ∧ S1.n < k ∧ k < S'.n ∧ Keep S1 S') 65 ?_ ?_
  · exact ⟨0, S2.n, rfl, rfl, rfl, rfl, rfl, rfl, psh_old0 hoT hnT, push_self _ _, hnT, Nat.lt_succ_self _, hkT.push' _⟩
  rintro q T S3 ⟨i, k, hi, e0, e3, e4, e5, e6, hoT3, hok, hk1', hk2', hkp⟩
  have hdz := dZ_len (rowsF n.toNat i)
  have hrl := rowsF_len n.toNat i
  by_cases hc : i < 65
  · simp -implicitDefEqProofs (disch := omega) only [seval, go_sem, e0, e3, e4, e5, e6, hoT3]
    refine .argL (.same (.same (.same (.empty .nil)))) (c_ref07_Make0 (nm := nN) (ar := [BitVec.ofNat 8 i, n]) (ga := .full) ?_ right_n (by show (2:Nat) ≤ _; decide))
    simp -implicitDefEqProofs (disch := omega) only [seval, go_sem, e0, e3, e4, e5, e6, hok, hdz]
    refine ⟨rfl, q - 1, by omega, i + 1, S3.n, by omega, e0, e3, e4, ?_, rfl, ?_, push_self (TS.set _ _ _) _, by omega, Nat.lt_succ_self _, ?_⟩
    · show TV.sl (.own S3.n) 4 (dZ (rowsF n.toNat i) ++ [rowZ (rowOne [BitVec.ofNat 8 i, n])]) = TV.sl (.own S3.n) 4 (dZ (rowsF n.toNat (i + 1)))
      rw [rowsF_succ, dZ_app, rowI, hnn]; rfl
    · exact psh_old0 (S := TS.set _ _ _) ((st_old _ (by omega)).trans hoT3) (by show S1.n < S3.n; omega)
    · exact (hkp.set (by omega) _).push' _
  have hi65 : i = 65 := by omega
  subst hi65
  have hf : ∀ m, ∀ r ∈ rowsF n.toNat m, fitsR r = true ∧ r.refs = [] := fun m => rowsF_ok
  have hb : ∀ m, ∀ r ∈ rowsF n.toNat m, RowB r := fun m r hr => by
    obtain ⟨i, _, rfl⟩ := rowsF_mem hr
    exact rowI_B _ _
  have g3 : StOk S3 s I .new := StG.keep h1 hkp
  obtain ⟨M, p64, hML, hMr, hMv⟩ := put64 hn
  simp -implicitDefEqProofs (disch := omega) only [seval, go_sem, e0, e3, e4, e5, e6, hdz]
  refine c_PutZ g3 Inv.new (hf _) (hb _) (by rw [hrl]; decide) fun S4 I4 g4 t4 => ?_
  rw [put65 hn] at g4 ⊢
  simp -implicitDefEqProofs (disch := omega) only [seval, go_sem, e0, e3, e4, e5, e6, hdz]
  refine c_Paths g4 (by decide) (fun p hp => by cases hp) ?_
  rw [show riseL (pathsOf StM.new.L) = [] from rfl]
  have hd0 : dT [] = [] := rfl
  simp -implicitDefEqProofs (disch := omega) only [seval, go_sem, e0, e3, e4, e5, e6, hdz, hd0]
  have k3 : Keep S S3 := hk1.trans hkp
  obtain ⟨k4, f4⟩ := keep_to k3 hf1 t4
  have hinv : Inv M := by have := Inv.put Inv.new (hb 64); rw [p64] at this; exact this
  rw [dZ_take, rowsF_take n.toNat 65 64 (by decide)]
  refine c_PutZ g4 Inv.new (hf _) (hb _) (by rw [rowsF_len]; decide) fun S5 I5 g5 t5 => ?_
  rw [p64] at g5 ⊢
  obtain ⟨k5, f5⟩ := keep_to k4 f4 t5
  simp -implicitDefEqProofs (disch := omega) only [seval, go_sem, e0, e3, e4, e5, e6, hdz]
  rw [dZ_drop, show (rowsF n.toNat 65).drop 64 = [rowI n.toNat 64] from by rw [rowsF_succ]; exact List.drop_left' (rowsF_len _ _)]
  refine c_PutZ g5 hinv (fun r hr => by rw [List.mem_singleton.1 hr]; exact ⟨rowI_fits _ _, rfl⟩) (fun r hr => by rw [List.mem_singleton.1 hr]; exact rowI_B _ _) (by show (1:Nat) ≤ _; decide) fun S6 I6 g6 t6 => ?_
  rw [put_1 hn hML] at g6 ⊢
  obtain ⟨k6, f6⟩ := keep_to k5 f5 t6
  simp -implicitDefEqProofs (disch := omega) only [seval, go_sem, e0, e3, e4, e5, e6, hdz]
  rw [dZ_take, rowsF_take n.toNat 65 3 (by decide)]
  refine c_PutZ g6 hinv (hf _) (hb _) (by rw [rowsF_len]; decide) fun S7 I7 g7 t7 => ?_
  rw [put_3 hML] at g7 ⊢
  obtain ⟨k7, f7⟩ := keep_to k6 f6 t7
  simp -implicitDefEqProofs (disch := omega) only [seval, go_sem, e0, e3, e4, e5, e6, hdz]
  refine c_Version g7 ?_
  rw [hMv]
  simp -implicitDefEqProofs (disch := omega) only [seval, go_sem, e0, e3, e4, e5, e6, hdz]
  refine loW_inv (fun q T S' => ∃ (i : Nat) (M' : StM), q + i = 16 ∧ i ≤ 16 ∧ RootsI n.toNat M' i ∧ StOk S' s I7 M' ∧ Keep S S' ∧ T 3 = .ptr s 0 ∧ T 5 = .sl (.own k) 4 (dZ (rowsF n.toNat 65)) ∧ T 9 = .lit (.int .i64 (i : Int))) 16 ?_ ?_
  · exact ⟨0, M, rfl, by decide, ⟨hinv, hML, fun q => by rw [hMr]; exact Iff.intro (fun h => by cases h) (fun h => by cases h)⟩, g7, k7, e3, e5, rfl⟩
  clear e0 e3 e4 e5 e6
  rintro q T S8 ⟨i, M', hi, hi16, hr, g8, k8, e3, e5, e9⟩
  have hgt : ∀ j, j < 65 → (dZ (rowsF n.toNat 65)).getD j default = .agg [.lit (.string (st (rowI n.toNat j).path)), .lit (.string (st (rowI n.toNat j).name)), .sl 1 (dB (rowI n.toNat j).arc), .sl 0 []] := fun j hj => by
    rw [dZ_get (by rw [rowsF_len]; exact hj), rowsF_get hj]; rfl
  by_cases hc : i < 16
  · have hx := hgt i (by omega)
    simp -implicitDefEqProofs (disch := omega) only [seval, go_sem, e3, e5, e9, hdz, hx]
    refine c_Root g8 hr.inv.wf.rs fun S9 g9 t9 => ?_
    obtain ⟨r1, r2⟩ := hr.root hn hc
    rw [r1]
    obtain ⟨k9, f9⟩ := keep_to k8 f7 t9
    simp -implicitDefEqProofs (disch := omega) only [seval, go_sem, e3, e5, e9, hdz, hx]
    exact ⟨q - 1, by omega, i + 1, _, by omega, by omega, r2, g9, k9, e3, e5, rfl⟩
  have hi' : i = 16 := by omega
  subst hi'
  have hx16 := hgt 16 (by decide)
  have hx0 := hgt 0 (by decide)
  simp -implicitDefEqProofs (disch := omega) only [seval, go_sem, e3, e5, e9, hdz, hx16]
  refine c_Root g8 hr.inv.wf.rs fun S9 g9 t9 => ?_
  rw [hr.more hn] at g9 ⊢
  obtain ⟨k9, f9⟩ := keep_to k8 f7 t9
  simp -implicitDefEqProofs (disch := omega) only [seval, go_sem, e3, e5, e9, hdz, hx0]
  refine c_Root g9 hr.inv.wf.rs fun S10 g10 t10 => ?_
  rw [hr.again] at g10 ⊢
  obtain ⟨k10, f10⟩ := keep_to k9 f9 t10
  simp -implicitDefEqProofs (disch := omega) only [seval, go_sem, e3, e5, e9, hdz, hx0]
  have hmu := hr.inv.mu
  have hrl16 := hr.len hn (by decide)
  have g10' : StOk S10 s I7 M' := g10
  refine c_Sweep g10' hr.inv.nd hr.inv.rb hr.inv.wf.rs (by omega) hr.inv.rpb (by rw [hr.l, rowsF_len]; decide) (by omega) fun S11 I11 g11 t11 => ?_
  obtain ⟨k11, f11⟩ := keep_to k10 f10 t11
  have hiv := hr.inv.sweep
  obtain ⟨w1, w2⟩ := hr.swept hn
  have hd1 := dT_len (sweepM M').2
  generalize sweepM M' = pr at *
  obtain ⟨M2, l2⟩ := pr
  simp -implicitDefEqProofs (disch := omega) only [seval, go_sem, e3, e5, e9, hdz, hd1, w1]
  refine c_Paths g11 (Nat.le_trans hiv.ll (by decide)) hiv.pb6 ?_
  have hd2 := dT_len (riseL (pathsOf M2.L))
  simp -implicitDefEqProofs (disch := omega) only [seval, go_sem, e3, e5, e9, hdz, hd2, w2]
  exact ⟨.lit _, k11⟩
end Go.Proofs.YtlljknmojafkoaaGreatDoor
