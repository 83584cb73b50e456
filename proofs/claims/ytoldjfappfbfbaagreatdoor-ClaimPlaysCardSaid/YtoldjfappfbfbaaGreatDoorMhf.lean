/-
  Lemmas of the claim, part 6: Vc Vd Ve Vf Ue.
-/
import Derived.Test.YtoldjfappfbfbaaGreatDoorMhe
set_option linter.unusedVariables false
set_option linter.unusedSimpArgs false
namespace Go.Proofs.YtoldjfappfbfbaaGreatDoor
open Go.RowKit TL
theorem putF_drop2 {L : List RowM} {l fr : List RowM} {i : Nat} (hi : i < l.length) : putF L (l.drop i) fr = if fitsR (l.getD i default) = false then (4, fr)
    else if hasP (L ++ fr) (l.getD i default).path = true then putF L (l.drop (i + 1)) fr
    else if (l.getD i default).refs.all (hasP (L ++ fr)) = false then (6, fr)
    else if 64 ≤ (L ++ fr).length then (3, fr)
    else putF L (l.drop (i + 1)) (fr ++ [l.getD i default]) := by
  rw [drop_at default hi]
  rfl
theorem touch_len : ∀ {fr : List RowM}, (∀ r ∈ fr, r.refs.length ≤ 255) → (fr.flatMap rowTouch).length ≤ 256 * fr.length
  | [], _ => Nat.le_refl _
  | r :: fr, h => by
    have h1 := touch_len (fr := fr) fun x hx => h x (List.mem_cons_of_mem _ hx)
    have h2 := h r (by simp)
    rw [List.flatMap_cons, List.length_append, List.length_cons, rowTouch, List.length_cons]
    omega
theorem psh4 {S : TS} {a b c d o : TObj} {id : Nat} (h : S.objs id = o) (hi : id < S.n) : ((((S.push a).push b).push c).push d).objs id = o := psh_old0 (psh_old0 (psh_old0 (psh_old0 h hi) (Nat.lt_succ_of_lt hi)) (Nat.lt_succ_of_lt (Nat.lt_succ_of_lt hi))) (Nat.lt_succ_of_lt (Nat.lt_succ_of_lt (Nat.lt_succ_of_lt hi)))
section
variable {S : TS} {M : StM}
set_option maxRecDepth 8000 in
set_option maxHeartbeats 4000000 in
theorem c_r10_Put {l : List RowM} {g : Tag} {K : TV → TS → Prop} (hK : K (.tup [refV (putM M l).1, .lit (.int .i64 (putM M l).2)]) S) (hb : RefB M) (hML : M.L.length ≤ 64) (hl : l.length ≤ 1000) (hrb : ∀ r ∈ l, RowB r ∧ r.refs.length ≤ 255) : TCall env 29 [refV M, .sl g 4 (dR l)] S K := by
  refine TCall.toPureD (r := .tup [refV (putM M l).1, .lit (.int .i64 (putM M l).2)]) ?_ hK
  have hdr := dR_len M.L
  have hdl := dR_len l
  rw [refV_mk M]
  refine TCall.w 88 [.cell 4 66, .tmp 5] Tryz.func29 rfl rfl rfl rfl (by kernel_rfl) rfl ?_
  simp -implicitDefEqProofs (disch := omega) only [seval, go_sem, hdr]
  refine ⟨rfl, ?_⟩
  have hbox : ((((S.push (.cells 66 [.sl .none 1 (gD fW), .sl .none 1 (gD kW), .sl .none 4 (dR M.L), .sl .none 1 (dT M.roots), .lit (w64 M.ver), .sl .none 2 (dC M.tc)])).push (.cells 66 [.sl .full 0 [], .sl .full 0 [], .sl .full 0 [], .sl .full 0 [], .lit (.int .u64 0), .sl .full 0 []])).push (.cells 66 [.sl .none 1 (gD fW), .sl .none 1 (gD kW), .sl (.own (S.n + 3)) 4 (dR M.L), .sl .none 1 (dT M.roots), .lit (w64 M.ver), .sl .none 2 (dC M.tc)])).push .lin).objs S.n = .cells 66 [.sl .none 1 (gD fW), .sl .none 1 (gD kW), .sl .none 4 (dR M.L), .sl .none 1 (dT M.roots), .lit (w64 M.ver), .sl .none 2 (dC M.tc)] := psh_old0 (psh_old0 (psh_old0 (push_self _ _) (Nat.lt_succ_self _)) (by show S.n < S.n + 2; omega)) (by show S.n < S.n + 3; omega)
  have hres : ((((S.push (.cells 66 [.sl .none 1 (gD fW), .sl .none 1 (gD kW), .sl .none 4 (dR M.L), .sl .none 1 (dT M.roots), .lit (w64 M.ver), .sl .none 2 (dC M.tc)])).push (.cells 66 [.sl .full 0 [], .sl .full 0 [], .sl .full 0 [], .sl .full 0 [], .lit (.int .u64 0), .sl .full 0 []])).push (.cells 66 [.sl .none 1 (gD fW), .sl .none 1 (gD kW), .sl (.own (S.n + 3)) 4 (dR M.L), .sl .none 1 (dT M.roots), .lit (w64 M.ver), .sl .none 2 (dC M.tc)])).push .lin).objs (S.n + 1) = .cells 66 [.sl .full 0 [], .sl .full 0 [], .sl .full 0 [], .sl .full 0 [], .lit (.int .u64 0), .sl .full 0 []] := psh_old0 (psh_old0 (push_self (S.push _) _) (by show S.n + 1 < S.n + 2; omega)) (by show S.n + 1 < S.n + 3; omega)
  have htt : ((((S.push (.cells 66 [.sl .none 1 (gD fW), .sl .none 1 (gD kW), .sl .none 4 (dR M.L), .sl .none 1 (dT M.roots), .lit (w64 M.ver), .sl .none 2 (dC M.tc)])).push (.cells 66 [.sl .full 0 [], .sl .full 0 [], .sl .full 0 [], .sl .full 0 [], .lit (.int .u64 0), .sl .full 0 []])).push (.cells 66 [.sl .none 1 (gD fW), .sl .none 1 (gD kW), .sl (.own (S.n + 3)) 4 (dR M.L), .sl .none 1 (dT M.roots), .lit (w64 M.ver), .sl .none 2 (dC M.tc)])).push .lin).objs (S.n + 2) = .cells 66 [.sl .none 1 (gD fW), .sl .none 1 (gD kW), .sl (.own (S.n + 3)) 4 (dR M.L), .sl .none 1 (dT M.roots), .lit (w64 M.ver), .sl .none 2 (dC M.tc)] := psh_old0 (push_self ((S.push _).push _) _) (by show S.n + 2 < S.n + 3; omega)
  have hlin : ((((S.push (.cells 66 [.sl .none 1 (gD fW), .sl .none 1 (gD kW), .sl .none 4 (dR M.L), .sl .none 1 (dT M.roots), .lit (w64 M.ver), .sl .none 2 (dC M.tc)])).push (.cells 66 [.sl .full 0 [], .sl .full 0 [], .sl .full 0 [], .sl .full 0 [], .lit (.int .u64 0), .sl .full 0 []])).push (.cells 66 [.sl .none 1 (gD fW), .sl .none 1 (gD kW), .sl (.own (S.n + 3)) 4 (dR M.L), .sl .none 1 (dT M.roots), .lit (w64 M.ver), .sl .none 2 (dC M.tc)])).push .lin).objs (S.n + 3) = .lin := push_self (((S.push _).push _).push _) _
  have hkp : Keep S ((((S.push (.cells 66 [.sl .none 1 (gD fW), .sl .none 1 (gD kW), .sl .none 4 (dR M.L), .sl .none 1 (dT M.roots), .lit (w64 M.ver), .sl .none 2 (dC M.tc)])).push (.cells 66 [.sl .full 0 [], .sl .full 0 [], .sl .full 0 [], .sl .full 0 [], .lit (.int .u64 0), .sl .full 0 []])).push (.cells 66 [.sl .none 1 (gD fW), .sl .none 1 (gD kW), .sl (.own (S.n + 3)) 4 (dR M.L), .sl .none 1 (dT M.roots), .lit (w64 M.ver), .sl .none 2 (dC M.tc)])).push .lin) := (((Keep.push _ _).push' _).push' _).push' _
  have hn1 : ((((S.push (.cells 66 [.sl .none 1 (gD fW), .sl .none 1 (gD kW), .sl .none 4 (dR M.L), .sl .none 1 (dT M.roots), .lit (w64 M.ver), .sl .none 2 (dC M.tc)])).push (.cells 66 [.sl .full 0 [], .sl .full 0 [], .sl .full 0 [], .sl .full 0 [], .lit (.int .u64 0), .sl .full 0 []])).push (.cells 66 [.sl .none 1 (gD fW), .sl .none 1 (gD kW), .sl (.own (S.n + 3)) 4 (dR M.L), .sl .none 1 (dT M.roots), .lit (w64 M.ver), .sl .none 2 (dC M.tc)])).push .lin).n = S.n + 4 := rfl
  generalize (((S.push (.cells 66 [.sl .none 1 (gD fW), .sl .none 1 (gD kW), .sl .none 4 (dR M.L), .sl .none 1 (dT M.roots), .lit (w64 M.ver), .sl .none 2 (dC M.tc)])).push (.cells 66 [.sl .full 0 [], .sl .full 0 [], .sl .full 0 [], .sl .full 0 [], .lit (.int .u64 0), .sl .full 0 []])).push (.cells 66 [.sl .none 1 (gD fW), .sl .none 1 (gD kW), .sl (.own (S.n + 3)) 4 (dR M.L), .sl .none 1 (dT M.roots), .lit (w64 M.ver), .sl .none 2 (dC M.tc)])).push .lin = S1 at *
  refine loW.asRow 7 1 rfl (.inl rfl) ?_
  refine loW.asRow 8 1 rfl (.inl rfl) ?_
  refine loW_inv (fun n T S' => ∃ (i kL k7 k8 : Nat) (fr : List RowM), n + i = l.length ∧ putF M.L (l.drop i) fr = putF M.L l [] ∧ fr.length ≤ i ∧ (∀ r ∈ fr, r.refs.length ≤ 255) ∧ T 1 = .sl g 4 (dR l) ∧ T 2 = .ptr S.n 0 ∧ T 4 = .ptr (S.n + 1) 0 ∧ T 6 = .ptr (S.n + 2) 0 ∧ T 7 = .sl (.own k7) 1 (dT (pathsOf fr)) ∧ T 8 = .sl (.own k8) 1 (dT (fr.flatMap rowTouch)) ∧ T 9 = .lit (.int .i64 (i : Int)) ∧
    S'.objs S.n = .cells 66 [.sl .none 1 (gD fW), .sl .none 1 (gD kW), .sl .none 4 (dR M.L), .sl .none 1 (dT M.roots), .lit (w64 M.ver), .sl .none 2 (dC M.tc)] ∧ S'.objs (S.n + 1) = .cells 66 [.sl .full 0 [], .sl .full 0 [], .sl .full 0 [], .sl .full 0 [], .lit (.int .u64 0), .sl .full 0 []] ∧ S'.objs (S.n + 2) = .cells 66 [.sl .none 1 (gD fW), .sl .none 1 (gD kW), .sl (.own kL) 4 (dR (M.L ++ fr)), .sl .none 1 (dT M.roots), .lit (w64 M.ver), .sl .none 2 (dC M.tc)] ∧ S'.objs kL = .lin ∧ S'.objs k7 = .lin ∧ S'.objs k8 = .lin ∧ kL ≠ k7 ∧ kL ≠ k8 ∧ k7 ≠ k8 ∧ S.n + 2 < kL ∧ S.n + 2 < k7 ∧ S.n + 2 < k8 ∧ kL < S'.n ∧ k7 < S'.n ∧ k8 < S'.n ∧ Keep S S') l.length ?_ ?_
  · refine ⟨0, S.n + 3, S1.n, S1.n + 1, [], rfl, rfl, Nat.le_refl _, (fun r h => by cases h), rfl, rfl, rfl, rfl, rfl, rfl, rfl, psh_old0 (psh_old0 hbox (by omega)) (by show S.n < S1.n + 1; omega), psh_old0 (psh_old0 hres (by omega)) (by show S.n + 1 < S1.n + 1; omega), ?_, psh_old0 (psh_old0 hlin (by omega)) (by show S.n + 3 < S1.n + 1; omega), psh_old0 (push_self _ _) (Nat.lt_succ_self _), push_self (S1.push _) _, by omega, by omega, by omega, by omega, by omega, by omega, by show S.n + 3 < S1.n + 2; omega, by show S1.n < S1.n + 2; omega, by show S1.n + 1 < S1.n + 2; omega, (hkp.push' _).push' _⟩
    rw [List.append_nil]
    exact psh_old0 (psh_old0 htt (by omega)) (by show S.n + 2 < S1.n + 1; omega)
  clear hbox hres htt hlin hkp
  rintro n T S2 ⟨i, kL, k7, k8, fr, hi, hpf, hfl, hfr, e1, e2, e4, e6, e7, e8, e9, hbox, hres, htt, hkL, hk7, hk8, n1, n2, n3, a1, a2, a3, b1, b2, b3, hkp⟩
  have hdf : (dR (M.L ++ fr)).length = M.L.length + fr.length := by rw [dR_len, List.length_append]
  have hfl2 : (M.L ++ fr).length ≤ 1064 := by rw [List.length_append]; omega
  have hd7 : (dT (pathsOf fr)).length = fr.length := by rw [dT_len, pathsOf, List.length_map]
  have hd8 := dT_len (fr.flatMap rowTouch)
  have htl8 := touch_len hfr
  by_cases hc : i < l.length
  · rw [putF_drop2 hc] at hpf
    have hx := dR_get hc
    obtain ⟨hrB, hr255⟩ := hrb _ (getD_mem (d := default) hc)
    generalize l.getD i default = r at *
    rw [rowD_mk] at hx
    have ho : ∀ {id o}, S2.objs id = o → id < S2.n → ∀ x, (S2.push x).objs id = o := fun h1 h2 x => psh_old0 h1 h2
    simp -implicitDefEqProofs (disch := omega) only [seval, go_sem, e1, e2, e4, e6, e7, e8, e9, hbox, hdl, hx, ho hbox (by omega)]
    refine c_r10_fits (M := M) (r := r) ?_ hrB
    have hrow := push_self S2 (.cells 44 [.lit (.string (st r.path)), .lit (.string (st r.name)), .sl .none 1 (dB r.arc), .sl .none 1 (dT r.refs)])
    have pbox := ho hbox (by omega) (.cells 44 [.lit (.string (st r.path)), .lit (.string (st r.name)), .sl .none 1 (dB r.arc), .sl .none 1 (dT r.refs)])
    have pres := ho hres (by omega) (.cells 44 [.lit (.string (st r.path)), .lit (.string (st r.name)), .sl .none 1 (dB r.arc), .sl .none 1 (dT r.refs)])
    have ptt := ho htt (by omega) (.cells 44 [.lit (.string (st r.path)), .lit (.string (st r.name)), .sl .none 1 (dB r.arc), .sl .none 1 (dT r.refs)])
    have pkL := ho hkL (by omega) (.cells 44 [.lit (.string (st r.path)), .lit (.string (st r.name)), .sl .none 1 (dB r.arc), .sl .none 1 (dT r.refs)])
    have pk7 := ho hk7 (by omega) (.cells 44 [.lit (.string (st r.path)), .lit (.string (st r.name)), .sl .none 1 (dB r.arc), .sl .none 1 (dT r.refs)])
    have pk8 := ho hk8 (by omega) (.cells 44 [.lit (.string (st r.path)), .lit (.string (st r.name)), .sl .none 1 (dB r.arc), .sl .none 1 (dT r.refs)])
    have pkp : Keep S (S2.push (.cells 44 [.lit (.string (st r.path)), .lit (.string (st r.name)), .sl .none 1 (dB r.arc), .sl .none 1 (dT r.refs)])) := hkp.push' _
    have pn : (S2.push (.cells 44 [.lit (.string (st r.path)), .lit (.string (st r.name)), .sl .none 1 (dB r.arc), .sl .none 1 (dT r.refs)])).n = S2.n + 1 := rfl
    clear hbox hres htt hkL hk7 hk8 hkp ho
    generalize S2.push (.cells 44 [.lit (.string (st r.path)), .lit (.string (st r.name)), .sl .none 1 (dB r.arc), .sl .none 1 (dT r.refs)]) = S3 at *
    by_cases hf : fitsR r = false
    · rw [if_pos hf] at hpf
      rw [putM_no M l (e := 4) (by rw [← hpf]) (by decide), hf]
      simp -implicitDefEqProofs (disch := omega) only [seval, go_sem, e1, e2, e4, e6, e7, e8, e9, pbox, pres]
      refine ⟨_, resCell (id := S.n + 1) e4 ti66 (TS.set_same' _ _ _) rfl rfl, ?_⟩
      exact ⟨_, .refl _, .tupF (.cons (ren_refV _ _ M) (.cons (.lit _) .nil)), pkp.set (by omega) _⟩
    rw [if_neg hf] at hpf
    have hf' : fitsR r = true := by simpa using hf
    rw [hf']
    simp -implicitDefEqProofs (disch := omega) only [seval, go_sem, e1, e2, e4, e6, e7, e8, e9, pbox, pres, ptt, hrow]
    refine .drop (b := [refV ⟨M.L ++ fr, M.roots, M.ver, M.tc⟩, .lit (.string (st r.path))]) (.cons (.aggF (.cons (.refl _) (.cons (.refl _) (.cons (.sl _ _ _) (.cons (.refl _) (.cons (.refl _) (.cons (.refl _) .nil))))))) (.cons (.refl _) .nil)) (c_r10_Has (M := ⟨M.L ++ fr, M.roots, M.ver, M.tc⟩) ?_ ⟨by show (M.L ++ fr).length ≤ _; omega, hb.rl, hb.tl⟩)
    by_cases hh : hasP (M.L ++ fr) r.path = true
    · rw [if_pos hh] at hpf
      rw [show hasP (StM.mk (M.L ++ fr) M.roots M.ver M.tc).L r.path = true from hh]
      simp -implicitDefEqProofs (disch := omega) only [seval, go_sem, e1, e2, e4, e6, e7, e8, e9, pbox, pres, ptt, hrow]
      exact ⟨n - 1, by omega, i + 1, kL, k7, k8, fr, by omega, hpf, by omega, hfr, e1, e2, e4, e6, e7, e8, rfl, pbox, pres, ptt, pkL, pk7, pk8, n1, n2, n3, a1, a2, a3, by omega, by omega, by omega, pkp⟩
    rw [if_neg hh] at hpf
    have hh' : hasP (M.L ++ fr) r.path = false := by simpa using hh
    rw [show hasP (StM.mk (M.L ++ fr) M.roots M.ver M.tc).L r.path = false from hh']
    have hdf2 := dT_len r.refs
    simp -implicitDefEqProofs (disch := omega) only [seval, go_sem, e1, e2, e4, e6, e7, e8, e9, pbox, pres, ptt, hrow]
    refine loW_inv (fun n2 T S' => ∃ k2 : Nat, n2 + k2 = r.refs.length ∧ S' = S3 ∧ T 1 = .sl g 4 (dR l) ∧ T 2 = .ptr S.n 0 ∧ T 4 = .ptr (S.n + 1) 0 ∧ T 6 = .ptr (S.n + 2) 0 ∧ T 7 = .sl (.own k7) 1 (dT (pathsOf fr)) ∧ T 8 = .sl (.own k8) 1 (dT (fr.flatMap rowTouch)) ∧ T 9 = .lit (.int .i64 (i : Int)) ∧ T 10 = .ptr S2.n 0 ∧ T 11 = .lit (.int .i64 (k2 : Int)) ∧ (r.refs.take k2).all (hasP (M.L ++ fr)) = true) r.refs.length ?_ ?_
    · exact ⟨0, rfl, rfl, e1, e2, e4, e6, e7, e8, e9, rfl, rfl, rfl⟩
    clear e1 e2 e4 e6 e7 e8 e9
    rintro m T S4 ⟨k2, hk2, rfl, e1, e2, e4, e6, e7, e8, e9, e10, e11, hall⟩
    by_cases hcr : k2 < r.refs.length
    · have hy := dT_get hcr
      have htk := take_succ_D r.refs (i := k2) [] hcr
      have hqm := getD_mem (d := []) hcr
      generalize r.refs.getD k2 [] = q at *
      simp -implicitDefEqProofs (disch := omega) only [seval, go_sem, e1, e2, e4, e6, e7, e8, e9, e10, e11, pbox, pres, ptt, hrow, hdf2, hy]
      refine drW_at [(0, 0), (1, 0), (2, 0), (3, 0), (4, 0), (5, 0), (6, 2), (7, 0)] followsN (by kernel_rfl) ?_
      simp -implicitDefEqProofs (disch := omega) only [seval, go_sem, e1, e2, e4, e6, e7, e8, e9, e10, e11, pbox, pres, ptt, hrow, hdf2, hy]
      refine .drop (b := [refV ⟨M.L ++ fr, M.roots, M.ver, M.tc⟩, .lit (.string (st q))]) (.cons (.aggF (.cons (.refl _) (.cons (.refl _) (.cons (.sl _ _ _) (.cons (.refl _) (.cons (.refl _) (.cons (.refl _) .nil))))))) (.cons (.refl _) .nil)) (c_r10_Has (M := ⟨M.L ++ fr, M.roots, M.ver, M.tc⟩) ?_ ⟨by show (M.L ++ fr).length ≤ _; omega, hb.rl, hb.tl⟩)
      by_cases hq : hasP (M.L ++ fr) q = true
      · rw [show hasP (StM.mk (M.L ++ fr) M.roots M.ver M.tc).L q = true from hq]
        simp -implicitDefEqProofs (disch := omega) only [seval, go_sem, e1, e2, e4, e6, e7, e8, e9, e10, e11, pbox, pres, ptt, hrow, hdf2, hy]
        exact ⟨m - 1, by omega, k2 + 1, by omega, rfl, e1, e2, e4, e6, e7, e8, e9, e10, rfl, by rw [htk, List.all_append, hall]; simp [hq]⟩
      · have hq' : hasP (M.L ++ fr) q = false := by simpa using hq
        rw [show hasP (StM.mk (M.L ++ fr) M.roots M.ver M.tc).L q = false from hq']
        have hno : r.refs.all (hasP (M.L ++ fr)) = false := by
          rw [List.all_eq_false]
          exact ⟨q, hqm, by rw [hq']; simp⟩
        rw [if_pos hno] at hpf
        rw [putM_no M l (e := 6) (by rw [← hpf]) (by decide)]
        simp -implicitDefEqProofs (disch := omega) only [seval, go_sem, e1, e2, e4, e6, e7, e8, e9, e10, e11, pbox, pres, ptt, hrow, hdf2, hy]
        refine ⟨_, resCell (id := S.n + 1) e4 ti66 (TS.set_same' _ _ _) rfl rfl, ?_⟩
        exact ⟨_, .refl _, .tupF (.cons (ren_refV _ _ M) (.cons (.lit _) .nil)), pkp.set (by omega) _⟩
    rw [List.take_of_length_le (by omega)] at hall
    rw [if_neg (by rw [hall]; simp)] at hpf
    by_cases h64 : 64 ≤ (M.L ++ fr).length
    · rw [if_pos h64] at hpf
      have h64' : 64 ≤ M.L.length + fr.length := by rw [← List.length_append]; exact h64
      rw [putM_no M l (e := 3) (by rw [← hpf]) (by decide)]
      simp -implicitDefEqProofs (disch := omega) only [seval, go_sem, e1, e2, e4, e6, e7, e8, e9, e10, e11, pbox, pres, ptt, hrow, hdf2, hdf]
      refine ⟨_, resCell (id := S.n + 1) e4 ti66 (TS.set_same' _ _ _) rfl rfl, ?_⟩
      exact ⟨_, .refl _, .tupF (.cons (ren_refV _ _ M) (.cons (.lit _) .nil)), pkp.set (by omega) _⟩
    rw [if_neg h64] at hpf
    have h64' : ¬ 64 ≤ M.L.length + fr.length := by rw [← List.length_append]; exact h64
    have hdn : dR (M.L ++ fr) ++ [D.agg [.lit (.string (st r.path)), .lit (.string (st r.name)), .sl 1 (dB r.arc), .sl 1 (dT r.refs)]] = dR (M.L ++ (fr ++ [r])) := by rw [← List.append_assoc, dR_app (M.L ++ fr)]; rfl
    simp -implicitDefEqProofs (disch := omega) only [seval, go_sem, e1, e2, e4, e6, e7, e8, e9, e10, e11, pbox, pres, ptt, hrow, hdf2, hdf, pkL, pk7, pk8, hd7, hd8, hdn]
    refine ⟨rfl, n - 1, by omega, i + 1, S4.n, S4.n + 1, S4.n + 3, fr ++ [r], by omega, hpf, by simp; omega, ?_, e1, e2, e4, e6, ?_, ?_, rfl, psh4 ((st_old _ (by omega)).trans ((st_old _ (by omega)).trans ((st_old _ (by omega)).trans ((st_old _ (by omega)).trans pbox)))) (by show S.n < S4.n; omega), psh4 ((st_old _ (by omega)).trans ((st_old _ (by omega)).trans ((st_old _ (by omega)).trans ((st_old _ (by omega)).trans pres)))) (by show S.n + 1 < S4.n; omega), psh4 ((st_old _ (by omega)).trans ((st_old _ (by omega)).trans (TS.set_same' _ _ _))) (by show S.n + 2 < S4.n; omega), psh_old0 (psh_old0 (psh_old0 (push_self _ _) (Nat.lt_succ_self _)) (by show S4.n < S4.n + 2; omega)) (by show S4.n < S4.n + 3; omega), psh_old0 (psh_old0 (push_self (TS.push _ _) _) (by show S4.n + 1 < S4.n + 2; omega)) (by show S4.n + 1 < S4.n + 3; omega), push_self (TS.push (TS.push (TS.push _ _) _) _) _, by omega, by omega, by omega, by omega, by omega, by omega, by show S4.n < S4.n + 4; omega, by show S4.n + 1 < S4.n + 4; omega, by show S4.n + 3 < S4.n + 4; omega, (((((((pkp.set (by omega) _).set (by omega) _).set (by omega) _).set (by omega) _).push' _).push' _).push' _).push' _⟩
    · intro x hx
      rcases List.mem_append.1 hx with hx | hx
      · exact hfr x hx
      · rw [List.mem_singleton.1 hx]; exact hr255
    · rw [pathsOf_app, dT_app]; rfl
    · rw [List.flatMap_append, dT_app, show dT ([r].flatMap rowTouch) = [D.lit (.string (st r.path))] ++ dT r.refs from by rw [List.flatMap_cons, List.flatMap_nil, List.append_nil]; rfl]
      exact congrArg (TV.sl (.own (S4.n + 3)) 1) (List.append_assoc _ _ _)
  · rw [List.drop_of_length_le (by omega)] at hpf
    have hpf1 : (putF M.L l []).1 = 0 := by rw [← hpf]; rfl
    have hpf2 : (putF M.L l []).2 = fr := by rw [← hpf]; rfl
    by_cases h0 : fr = []
    · have hpm : putM M l = (M, 0) := by
        unfold putM
        rw [hpf2, if_neg (by rw [hpf1]; simp), if_pos h0]
      rw [hpm]
      have h00 : fr.length = 0 := by rw [h0]; rfl
      have pkp := hkp
      simp -implicitDefEqProofs (disch := omega) only [seval, go_sem, e1, e2, e4, e6, e7, e8, e9, hbox, hres, hdl, hd7]
      refine ⟨_, resCell (id := S.n + 1) e4 ti66 (TS.set_same' _ _ _) rfl rfl, ?_⟩
      exact ⟨_, .refl _, .tupF (.cons (ren_refV _ _ M) (.cons (.lit _) .nil)), pkp.set (by omega) _⟩
    · have hpm : putM M l = (touchM ⟨M.L ++ fr, M.roots, M.ver + 1#64, M.tc⟩ (fr.flatMap rowTouch), 0) := by
        unfold putM
        rw [hpf2, if_neg (by rw [hpf1]; simp), if_neg h0]
      rw [hpm]
      have h00 : 0 < fr.length := List.length_pos_iff.2 h0
      simp -implicitDefEqProofs (disch := omega) only [seval, go_sem, e1, e2, e4, e6, e7, e8, e9, hbox, hres, htt, hdl, hd7]
      refine .drop (b := [refV ⟨M.L ++ fr, M.roots, M.ver + 1#64, M.tc⟩, .sl (.own k8) 1 (dT (fr.flatMap rowTouch))]) (.cons (.aggF (.cons (.refl _) (.cons (.refl _) (.cons (.sl _ _ _) (.cons (.refl _) (.cons (.refl _) (.cons (.refl _) .nil))))))) (.cons (.refl _) .nil)) ?_
      refine c_r10_touch (M := ⟨M.L ++ fr, M.roots, M.ver + 1#64, M.tc⟩) ?_ ⟨by show (M.L ++ fr).length ≤ _; omega, hb.rl, hb.tl⟩ (by omega)
      rw [refV_mk]
      simp -implicitDefEqProofs (disch := omega) only [seval, go_sem, e1, e2, e4, e6, e7, e8, e9, hbox, hres, htt, hdl, hd7]
      refine ⟨_, resCell (id := S.n + 1) e4 ti66 (TS.set_same' _ _ _) rfl rfl, ?_⟩
      exact ⟨_, .refl _, .tupF (.cons (ren_refV _ _ _) (.cons (.lit _) .nil)), (hkp.set (by omega) _).set (by omega) _⟩
end
end Go.Proofs.YtoldjfappfbfbaaGreatDoor
namespace Go.Proofs.YtoldjfappfbfbaaGreatDoor
open Go.RowKit TL
section
variable {S : TS} {M : StM}
set_option maxRecDepth 8000 in
set_option maxHeartbeats 1000000 in
theorem c_r10_cut {l : List Bs} {g : Tag} {K : TV → TS → Prop} (hK : K (refV (cutM M l)) S) (hb : RefB M) (hML : M.L.length ≤ 1000) (hr : ∀ r ∈ M.L, r.refs.length ≤ 255) (hll : l.length ≤ 1000000) : TCall env 78 [refV M, .sl g 1 (dT l)] S K := by
  refine TCall.toPureD (r := refV (cutM M l)) ?_ hK
  have hdr := dR_len M.L
  rw [refV_mk M]
  refine TCall.w 57 [.cell 4 66] Tryz.func78 rfl rfl rfl rfl (by kernel_rfl) rfl ?_
  simp -implicitDefEqProofs (disch := omega) only [seval, go_sem]
  have hbox : ((S.push (.cells 66 [.sl .none 1 (gD fW), .sl .none 1 (gD kW), .sl .none 4 (dR M.L), .sl .none 1 (dT M.roots), .lit (w64 (M.ver + 1#64)), .sl .none 2 (dC M.tc)])).push (.cells 66 [.sl .full 0 [], .sl .full 0 [], .sl .full 0 [], .sl .full 0 [], .lit (.int .u64 0), .sl .full 0 []])).objs S.n = .cells 66 [.sl .none 1 (gD fW), .sl .none 1 (gD kW), .sl .none 4 (dR M.L), .sl .none 1 (dT M.roots), .lit (w64 (M.ver + 1#64)), .sl .none 2 (dC M.tc)] := psh_old0 (push_self _ _) (Nat.lt_succ_self _)
  have hres : ((S.push (.cells 66 [.sl .none 1 (gD fW), .sl .none 1 (gD kW), .sl .none 4 (dR M.L), .sl .none 1 (dT M.roots), .lit (w64 (M.ver + 1#64)), .sl .none 2 (dC M.tc)])).push (.cells 66 [.sl .full 0 [], .sl .full 0 [], .sl .full 0 [], .sl .full 0 [], .lit (.int .u64 0), .sl .full 0 []])).objs (S.n + 1) = .cells 66 [.sl .full 0 [], .sl .full 0 [], .sl .full 0 [], .sl .full 0 [], .lit (.int .u64 0), .sl .full 0 []] := push_self (S.push _) _
  have hkp : Keep S ((S.push (.cells 66 [.sl .none 1 (gD fW), .sl .none 1 (gD kW), .sl .none 4 (dR M.L), .sl .none 1 (dT M.roots), .lit (w64 (M.ver + 1#64)), .sl .none 2 (dC M.tc)])).push (.cells 66 [.sl .full 0 [], .sl .full 0 [], .sl .full 0 [], .sl .full 0 [], .lit (.int .u64 0), .sl .full 0 []])) := (Keep.push _ _).push' _
  have hn1 : ((S.push (.cells 66 [.sl .none 1 (gD fW), .sl .none 1 (gD kW), .sl .none 4 (dR M.L), .sl .none 1 (dT M.roots), .lit (w64 (M.ver + 1#64)), .sl .none 2 (dC M.tc)])).push (.cells 66 [.sl .full 0 [], .sl .full 0 [], .sl .full 0 [], .sl .full 0 [], .lit (.int .u64 0), .sl .full 0 []])).n = S.n + 2 := rfl
  generalize (S.push (.cells 66 [.sl .none 1 (gD fW), .sl .none 1 (gD kW), .sl .none 4 (dR M.L), .sl .none 1 (dT M.roots), .lit (w64 (M.ver + 1#64)), .sl .none 2 (dC M.tc)])).push (.cells 66 [.sl .full 0 [], .sl .full 0 [], .sl .full 0 [], .sl .full 0 [], .lit (.int .u64 0), .sl .full 0 []]) = S1 at *
  refine loW.asRow 5 4 rfl (.inl rfl) ?_
  refine loW.asRow 6 1 rfl (.inl rfl) ?_
  refine loW_inv (fun n T S' => ∃ (i k5 k6 : Nat), n + i = M.L.length ∧ T 1 = .sl g 1 (dT l) ∧ T 2 = .ptr S.n 0 ∧ T 4 = .ptr (S.n + 1) 0 ∧ T 5 = .sl (.own k5) 4 (dR ((M.L.take i).filter fun r => !decide (r.path ∈ l))) ∧ T 6 = .sl (.own k6) 1 (dT (((M.L.take i).filter fun r => decide (r.path ∈ l)).flatMap rowTouch)) ∧ T 7 = .lit (.int .i64 (i : Int)) ∧
    S'.objs S.n = .cells 66 [.sl .none 1 (gD fW), .sl .none 1 (gD kW), .sl .none 4 (dR M.L), .sl .none 1 (dT M.roots), .lit (w64 (M.ver + 1#64)), .sl .none 2 (dC M.tc)] ∧ S'.objs (S.n + 1) = .cells 66 [.sl .full 0 [], .sl .full 0 [], .sl .full 0 [], .sl .full 0 [], .lit (.int .u64 0), .sl .full 0 []] ∧ S'.objs k5 = .lin ∧ S'.objs k6 = .lin ∧ k5 ≠ k6 ∧ S.n + 1 < k5 ∧ S.n + 1 < k6 ∧ k5 < S'.n ∧ k6 < S'.n ∧ Keep S S') M.L.length ?_ ?_
  · exact ⟨0, S1.n, S1.n + 1, rfl, rfl, rfl, rfl, rfl, rfl, rfl, psh_old0 (psh_old0 hbox (by omega)) (by show S.n < S1.n + 1; omega), psh_old0 (psh_old0 hres (by omega)) (by show S.n + 1 < S1.n + 1; omega), psh_old0 (push_self _ _) (Nat.lt_succ_self _), push_self (S1.push _) _, by omega, by omega, by omega, by show S1.n < S1.n + 2; omega, by show S1.n + 1 < S1.n + 2; omega, (hkp.push' _).push' _⟩
  clear hbox hres hkp
  rintro n T S2 ⟨i, k5, k6, hi, e1, e2, e4, e5, e6, e7, hbox, hres, hk5, hk6, n1, a1, a2, b1, b2, hkp⟩
  have hft : ((M.L.take i).filter fun r => !decide (r.path ∈ l)).length ≤ i := Nat.le_trans (List.length_filter_le _ _) (by rw [List.length_take]; omega)
  have hgt : ((M.L.take i).filter fun r => decide (r.path ∈ l)).length ≤ i := Nat.le_trans (List.length_filter_le _ _) (by rw [List.length_take]; omega)
  have hd5 := dR_len ((M.L.take i).filter fun r => !decide (r.path ∈ l))
  have hd6 := dT_len (((M.L.take i).filter fun r => decide (r.path ∈ l)).flatMap rowTouch)
  have htl := touch_len (fr := (M.L.take i).filter fun r => decide (r.path ∈ l)) fun r h => hr r (List.mem_of_mem_take (List.mem_filter.1 h).1)
  by_cases hc : i < M.L.length
  · have hx := dR_get hc
    have htk := take_succ_D M.L (i := i) default hc
    have h255 := hr _ (getD_mem (d := default) hc)
    generalize M.L.getD i default = r at *
    have hdf := dT_len r.refs
    rw [rowD_mk] at hx
    simp -implicitDefEqProofs (disch := omega) only [seval, go_sem, e1, e2, e4, e5, e6, e7, hbox, hdr, hx]
    refine c_godownref01_Has ?_
    by_cases hm : r.path ∈ l
    · rw [decide_eq_true hm]
      simp -implicitDefEqProofs (disch := omega) only [seval, go_sem, e1, e2, e4, e5, e6, e7, hbox, hdr, hx, hk6, hd6, hdf]
      have hb2 : (((S2.set k6 .gone).push .gone).push .lin).objs S.n = .cells 66 [.sl .none 1 (gD fW), .sl .none 1 (gD kW), .sl .none 4 (dR M.L), .sl .none 1 (dT M.roots), .lit (w64 (M.ver + 1#64)), .sl .none 2 (dC M.tc)] := psh_old0 (psh_old0 ((st_old _ (by omega)).trans hbox) (by show S.n < S2.n; omega)) (by show S.n < S2.n + 1; omega)
      refine ⟨n - 1, by omega, i + 1, k5, S2.n + 1, by omega, e1, e2, e4, ?_, ?_, rfl, hb2, psh_old0 (psh_old0 ((st_old _ (by omega)).trans hres) (by show S.n + 1 < S2.n; omega)) (by show S.n + 1 < S2.n + 1; omega), psh_old0 (psh_old0 ((st_old _ (by omega)).trans hk5) (by show k5 < S2.n; omega)) (by show k5 < S2.n + 1; omega), push_self (TS.push _ _) _, by omega, by omega, by omega, by show k5 < S2.n + 2; omega, by show S2.n + 1 < S2.n + 2; omega, ((hkp.set (by omega) _).push' _).push' _⟩
      · rw [htk, List.filter_append, List.filter_cons, if_neg (by rw [decide_eq_true hm]; simp), List.filter_nil, List.append_nil]
        exact e5
      · rw [htk, List.filter_append, List.filter_cons, if_pos (decide_eq_true hm), List.filter_nil, List.flatMap_append, dT_app, show dT ([r].flatMap rowTouch) = [D.lit (.string (st r.path))] ++ dT r.refs from by rw [List.flatMap_cons, List.flatMap_nil, List.append_nil]; rfl]
        exact congrArg (TV.sl (.own (S2.n + 1)) 1) (List.append_assoc _ _ _)
    · rw [decide_eq_false hm]
      simp -implicitDefEqProofs (disch := omega) only [seval, go_sem, e1, e2, e4, e5, e6, e7, hbox, hdr, hx, hk5, hd5, hdf]
      refine ⟨rfl, n - 1, by omega, i + 1, S2.n, k6, by omega, e1, e2, e4, ?_, ?_, rfl, psh_old0 ((st_old _ (by omega)).trans hbox) (by show S.n < S2.n; omega), psh_old0 ((st_old _ (by omega)).trans hres) (by show S.n + 1 < S2.n; omega), push_self _ _, psh_old0 ((st_old _ (by omega)).trans hk6) (by show k6 < S2.n; omega), by omega, by omega, by omega, Nat.lt_succ_self _, by show k6 < S2.n + 1; omega, (hkp.set (by omega) _).push' _⟩
      · rw [htk, List.filter_append, List.filter_cons, if_pos (by rw [decide_eq_false hm]; rfl), dR_app]; rfl
      · rw [htk, List.filter_append, List.filter_cons, if_neg (by rw [decide_eq_false hm]; simp), List.filter_nil, List.append_nil]
        exact e6
  · rw [List.take_of_length_le (by omega)] at e5 e6 hft htl hgt
    simp -implicitDefEqProofs (disch := omega) only [seval, go_sem, e1, e2, e4, e5, e6, e7, hbox, hres, hdr]
    refine .drop (b := [refV ⟨M.L.filter fun r => !decide (r.path ∈ l), M.roots, M.ver + 1#64, M.tc⟩, .sl (.own k6) 1 (dT ((M.L.filter fun r => decide (r.path ∈ l)).flatMap rowTouch))]) (.cons (.aggF (.cons (.refl _) (.cons (.refl _) (.cons (.sl _ _ _) (.cons (.refl _) (.cons (.refl _) (.cons (.refl _) .nil))))))) (.cons (.refl _) .nil)) ?_
    refine c_r10_touch (M := ⟨M.L.filter fun r => !decide (r.path ∈ l), M.roots, M.ver + 1#64, M.tc⟩) ?_ ⟨by show (M.L.filter _).length ≤ _; omega, hb.rl, hb.tl⟩ (by omega)
    rw [refV_mk (touchM ⟨M.L.filter fun r => !decide (r.path ∈ l), M.roots, M.ver + 1#64, M.tc⟩ ((M.L.filter fun r => decide (r.path ∈ l)).flatMap rowTouch))]
    simp -implicitDefEqProofs (disch := omega) only [seval, go_sem, e1, e2, e4, e5, e6, e7, hbox, hres, hdr]
    refine ⟨_, resCell (id := S.n + 1) e4 ti66 (TS.set_same' _ _ _) rfl rfl, ?_⟩
    exact ⟨_, .refl _, ren_refV _ _ (cutM M l), (hkp.set (by omega) _).set (by omega) _⟩
set_option maxRecDepth 8000 in
set_option maxHeartbeats 1000000 in
theorem c_r10_Delete {p : Bs} {K : TV → TS → Prop} (hK : K (.tup [refV (deleteM M p).1, .lit (.int .i64 (deleteM M p).2)]) S) (hb : RefB M) (hML : M.L.length ≤ 1000) (hr : ∀ r ∈ M.L, r.refs.length ≤ 255) : TCall env 33 [refV M, .lit (.string (st p))] S K := by
  refine TCall.toPureD (r := .tup [refV (deleteM M p).1, .lit (.int .i64 (deleteM M p).2)]) ?_ hK
  have hrl := hb.rl
  rw [refV_mk M]
  refine TCall.w 29 [.cell 4 66, .tmp 5] Tryz.func33 rfl rfl rfl rfl (by kernel_rfl) rfl ?_
  simp -implicitDefEqProofs (disch := omega) only [seval, go_sem]
  have hbox : ((S.push (.cells 66 [.sl .none 1 (gD fW), .sl .none 1 (gD kW), .sl .none 4 (dR M.L), .sl .none 1 (dT M.roots), .lit (w64 M.ver), .sl .none 2 (dC M.tc)])).push (.cells 66 [.sl .full 0 [], .sl .full 0 [], .sl .full 0 [], .sl .full 0 [], .lit (.int .u64 0), .sl .full 0 []])).objs S.n = .cells 66 [.sl .none 1 (gD fW), .sl .none 1 (gD kW), .sl .none 4 (dR M.L), .sl .none 1 (dT M.roots), .lit (w64 M.ver), .sl .none 2 (dC M.tc)] := psh_old0 (push_self _ _) (Nat.lt_succ_self _)
  have hres : ((S.push (.cells 66 [.sl .none 1 (gD fW), .sl .none 1 (gD kW), .sl .none 4 (dR M.L), .sl .none 1 (dT M.roots), .lit (w64 M.ver), .sl .none 2 (dC M.tc)])).push (.cells 66 [.sl .full 0 [], .sl .full 0 [], .sl .full 0 [], .sl .full 0 [], .lit (.int .u64 0), .sl .full 0 []])).objs (S.n + 1) = .cells 66 [.sl .full 0 [], .sl .full 0 [], .sl .full 0 [], .sl .full 0 [], .lit (.int .u64 0), .sl .full 0 []] := push_self (S.push _) _
  have hkp : Keep S ((S.push (.cells 66 [.sl .none 1 (gD fW), .sl .none 1 (gD kW), .sl .none 4 (dR M.L), .sl .none 1 (dT M.roots), .lit (w64 M.ver), .sl .none 2 (dC M.tc)])).push (.cells 66 [.sl .full 0 [], .sl .full 0 [], .sl .full 0 [], .sl .full 0 [], .lit (.int .u64 0), .sl .full 0 []])) := (Keep.push _ _).push' _
  have hn1 : ((S.push (.cells 66 [.sl .none 1 (gD fW), .sl .none 1 (gD kW), .sl .none 4 (dR M.L), .sl .none 1 (dT M.roots), .lit (w64 M.ver), .sl .none 2 (dC M.tc)])).push (.cells 66 [.sl .full 0 [], .sl .full 0 [], .sl .full 0 [], .sl .full 0 [], .lit (.int .u64 0), .sl .full 0 []])).n = S.n + 2 := rfl
  generalize (S.push (.cells 66 [.sl .none 1 (gD fW), .sl .none 1 (gD kW), .sl .none 4 (dR M.L), .sl .none 1 (dT M.roots), .lit (w64 M.ver), .sl .none 2 (dC M.tc)])).push (.cells 66 [.sl .full 0 [], .sl .full 0 [], .sl .full 0 [], .sl .full 0 [], .lit (.int .u64 0), .sl .full 0 []]) = S1 at *
  rw [← refV_mk]
  refine c_r10_Has ?_ hb
  unfold deleteM
  by_cases h1 : hasP M.L p = false
  · rw [if_pos h1, h1]
    simp -implicitDefEqProofs (disch := omega) only [seval, go_sem, hbox, hres]
    refine ⟨_, resCell (id := S.n + 1) rfl ti66 (TS.set_same' _ _ _) rfl rfl, ?_⟩
    exact ⟨_, .refl _, .tupF (.cons (ren_refV _ _ M) (.cons (.lit _) .nil)), hkp.set (by omega) _⟩
  rw [if_neg h1]
  have h1' : hasP M.L p = true := by simpa using h1
  rw [h1']
  simp -implicitDefEqProofs (disch := omega) only [seval, go_sem, hbox, hres]
  refine c_godownref01_Has ?_
  by_cases h2 : p ∈ M.roots
  · rw [if_pos (.inl h2), decide_eq_true h2]
    simp -implicitDefEqProofs (disch := omega) only [seval, go_sem, hbox, hres]
    refine ⟨_, resCell (id := S.n + 1) rfl ti66 (TS.set_same' _ _ _) rfl rfl, ?_⟩
    exact ⟨_, .refl _, .tupF (.cons (ren_refV _ _ M) (.cons (.lit _) .nil)), hkp.set (by omega) _⟩
  rw [decide_eq_false h2]
  simp -implicitDefEqProofs (disch := omega) only [seval, go_sem, hbox, hres]
  rw [← refV_mk]
  refine c_r10_Referrers ?_ hb (by omega) (fun r h => Nat.le_trans (hr r h) (by decide))
  have hrf : (referrersL M.L p).length ≤ 1000 := by
    have h3 := riseL_len (pathsOf (M.L.filter fun r => decide (p ∈ r.refs)))
    have h4 : (pathsOf (M.L.filter fun r => decide (p ∈ r.refs))).length ≤ M.L.length := by rw [pathsOf, List.length_map]; exact List.length_filter_le _ _
    show (riseL _).length ≤ 1000
    omega
  simp -implicitDefEqProofs (disch := omega) only [seval, go_sem, hbox, hres]
  refine c_r10_without ?_ (by omega)
  have hdw := dT_len (withoutL (referrersL M.L p) p)
  by_cases h3 : withoutL (referrersL M.L p) p = []
  · rw [if_neg (fun h => h.elim h2 (fun h => h h3)), h3]
    have h00 : (dT []).length = 0 := rfl
    simp -implicitDefEqProofs (disch := omega) only [seval, go_sem, hbox, hres, h00]
    refine c_r10_cut (M := M) (l := [p]) ?_ hb hML hr (by simp)
    rw [refV_mk (cutM M [p])]
    simp -implicitDefEqProofs (disch := omega) only [seval, go_sem, hbox, hres]
    refine ⟨_, resCell (id := S.n + 1) rfl ti66 (TS.set_same' _ _ _) rfl rfl, ?_⟩
    exact ⟨_, .refl _, .tupF (.cons (ren_refV _ _ (cutM M [p])) (.cons (.lit _) .nil)), hkp.set (by omega) _⟩
  · have h4 : 0 < (withoutL (referrersL M.L p) p).length := List.length_pos_iff.2 h3
    rw [if_pos (.inr h3)]
    simp -implicitDefEqProofs (disch := omega) only [seval, go_sem, hbox, hres, hdw]
    refine ⟨_, resCell (id := S.n + 1) rfl ti66 (TS.set_same' _ _ _) rfl rfl, ?_⟩
    exact ⟨_, .refl _, .tupF (.cons (ren_refV _ _ M) (.cons (.lit _) .nil)), hkp.set (by omega) _⟩
end
end Go.Proofs.YtoldjfappfbfbaaGreatDoor
namespace Go.Proofs.YtoldjfappfbfbaaGreatDoor
open Go.RowKit TL
theorem Rch.le {L : List RowM} {from_ cur : List Bs} (hr : Ris cur) (h1 : ∀ p ∈ cur, Rch L from_ p) : cur.length ≤ L.length := by
  have := nodup_len (ris_nodup hr) (b := pathsOf L) fun p hp => (hasP_iff L p).1 (h1 p hp).has
  simpa [pathsOf] using this
section
variable {S : TS} {M : StM}
end
end Go.Proofs.YtoldjfappfbfbaaGreatDoor
namespace Go.Proofs.YtoldjfappfbfbaaGreatDoor
open Go.RowKit TL
/-- A claim of the document: whose, of what, when. -/
abbrev ClO := Int × Bs × BitVec 64
def oD (x : ClO) : D := .agg [.lit (.int .i64 x.1), .lit (.string (st x.2.1)), .lit (w64 x.2.2)]
theorem oD_mk (a : Int) (p : Bs) (s : BitVec 64) : oD (a, p, s) = .agg [.lit (.int .i64 a), .lit (.string (st p)), .lit (w64 s)] := rfl
def dOw (l : List ClO) : List D := l.map oD
theorem dOw_len (l : List ClO) : (dOw l).length = l.length := List.length_map _
theorem dOw_app (a b : List ClO) : dOw (a ++ b) = dOw a ++ dOw b := List.map_append
theorem dOw_get {l : List ClO} {i : Nat} (h : i < l.length) : (dOw l).getD i default = oD (l.getD i default) := by
  rw [dOw, List.getD_eq_getElem?_getD, List.getElem?_map, List.getD_eq_getElem?_getD, List.getElem?_eq_getElem h]; rfl
section
variable {S : TS} {M : StM}
set_option maxRecDepth 8000 in
set_option maxHeartbeats 1000000 in
theorem c_r16_Of {c : List ClO} {ow : Int} {g : Tag} {K : TV → TS → Prop} (hK : K (.sl .none 3 (dOw (c.filter fun x => decide (x.1 = ow)))) S) (hl : c.length ≤ 1000000) : TCall env 34 [.sl g 3 (dOw c), .lit (.int .i64 ow)] S K := by
  refine TCall.toPureD (r := .sl .none 3 (dOw (c.filter fun x => decide (x.1 = ow)))) ?_ hK
  have hdl := dOw_len c
  refine TCall.w 28 [.tmp 4] Tryz.func34 rfl rfl rfl rfl (by kernel_rfl) rfl ?_
  simp -implicitDefEqProofs (disch := omega) only [seval, go_sem]
  refine loW.asRow 5 3 rfl (.inl rfl) ?_
  refine loW_inv (fun n T S' => ∃ (i k : Nat), n + i = c.length ∧ T 0 = .sl g 3 (dOw c) ∧ T 1 = .lit (.int .i64 ow) ∧ T 5 = .sl (.own k) 3 (dOw ((c.take i).filter fun x => decide (x.1 = ow))) ∧ T 6 = .lit (.int .i64 (i : Int)) ∧ S'.objs k = .lin ∧ S.n ≤ k ∧ k < S'.n ∧ Keep S S') c.length ?_ ?_
  · exact ⟨0, S.n, rfl, rfl, rfl, rfl, rfl, push_self _ _, Nat.le_refl _, Nat.lt_succ_self _, Keep.push _ _⟩
  rintro n T S2 ⟨i, k, hi, h0, h1, h5, h6, hk, hk1, hk2, hkp⟩
  have hpl := dOw_len ((c.take i).filter fun x => decide (x.1 = ow))
  have hpl2 : ((c.take i).filter fun x => decide (x.1 = ow)).length ≤ i := Nat.le_trans (List.length_filter_le _ _) (by rw [List.length_take]; omega)
  by_cases hc : i < c.length
  · have hx := dOw_get hc
    have htk := take_succ_D c (i := i) default hc
    generalize c.getD i default = q at *
    obtain ⟨qo, qp, qs⟩ := q
    rw [oD_mk] at hx
    simp -implicitDefEqProofs (disch := omega) only [seval, go_sem, h0, h1, h5, h6, hdl, hx]
    by_cases hq : qo = ow
    · have hdq : decide (qo = ow) = true := decide_eq_true hq
      have hnq : decide (qo ≠ ow) = false := decide_eq_false (fun h => h hq)
      first | refine cdK_d (fun hq2 => ?_) (fun hq2 => absurd hq (by simpa using hq2)) | skip
      simp -implicitDefEqProofs (disch := omega) only [seval, go_sem, h0, h1, h5, h6, hdl, hx, hk, hpl, hdq, hnq]
      refine ⟨rfl, n - 1, by omega, i + 1, S2.n, by omega, h0, h1, ?_, rfl, push_self _ _, by have := hkp.1; omega, Nat.lt_succ_self _, (hkp.set (by omega) _).push' _⟩
      rw [htk, List.filter_append, List.filter_cons, if_pos (by simp [hq]), dOw_app]; rfl
    · have hdq : decide (qo = ow) = false := decide_eq_false hq
      have hnq : decide (qo ≠ ow) = true := decide_eq_true hq
      first | refine cdK_d (fun hq2 => absurd hq (by simpa using hq2)) (fun hq2 => ?_) | skip
      simp -implicitDefEqProofs (disch := omega) only [seval, go_sem, h0, h1, h5, h6, hdl, hx, hk, hpl, hdq, hnq]
      refine ⟨n - 1, by omega, i + 1, k, by omega, h0, h1, ?_, rfl, hk, hk1, hk2, hkp⟩
      rw [htk, List.filter_append, List.filter_cons, if_neg (by simp [hq]), List.filter_nil, List.append_nil]
      exact h5
  · rw [List.take_of_length_le (by omega)] at h5
    simp -implicitDefEqProofs (disch := omega) only [seval, go_sem, h0, h1, h5, h6, hdl]
    exact ⟨_, .refl _, .slN _ _ _, hkp⟩
set_option maxRecDepth 8000 in
set_option maxHeartbeats 1000000 in
theorem c_r16_Fresh {c : List ClO} {ow : Int} {g : Tag} {K : TV → TS → Prop} (hK : K (.lit (.bool (c.all fun x => !decide (x.1 = ow) || decide (stampT M.tc x.2.1 = x.2.2)))) S) (hl : c.length ≤ 1000000) (hb : RefB M) : TCall env 35 [.sl g 3 (dOw c), .lit (.int .i64 ow), refV M] S K := by
  refine TCall.toPure (r := .lit (.bool (c.all fun x => !decide (x.1 = ow) || decide (stampT M.tc x.2.1 = x.2.2)))) ?_ hK
  have hdl := dOw_len c
  rw [refV_mk M]
  refine TCall.w 36 [.tmp 6] Tryz.func35 rfl rfl rfl rfl (by kernel_rfl) rfl ?_
  simp -implicitDefEqProofs (disch := omega) only [seval, go_sem]
  have hbox : (S.push (.cells 66 [.sl .none 1 (gD fW), .sl .none 1 (gD kW), .sl .none 4 (dR M.L), .sl .none 1 (dT M.roots), .lit (w64 M.ver), .sl .none 2 (dC M.tc)])).objs S.n = .cells 66 [.sl .none 1 (gD fW), .sl .none 1 (gD kW), .sl .none 4 (dR M.L), .sl .none 1 (dT M.roots), .lit (w64 M.ver), .sl .none 2 (dC M.tc)] := push_self _ _
  have hkp : Keep S (S.push (.cells 66 [.sl .none 1 (gD fW), .sl .none 1 (gD kW), .sl .none 4 (dR M.L), .sl .none 1 (dT M.roots), .lit (w64 M.ver), .sl .none 2 (dC M.tc)])) := Keep.push _ _
  generalize S.push (.cells 66 [.sl .none 1 (gD fW), .sl .none 1 (gD kW), .sl .none 4 (dR M.L), .sl .none 1 (dT M.roots), .lit (w64 M.ver), .sl .none 2 (dC M.tc)]) = S1 at *
  refine loW_inv (fun n T S' => ∃ i : Nat, n + i = c.length ∧ T 0 = .sl g 3 (dOw c) ∧ T 1 = .lit (.int .i64 ow) ∧ T 5 = .ptr S.n 0 ∧ T 7 = .lit (.int .i64 (i : Int)) ∧ S' = S1 ∧ (c.take i).all (fun x => !decide (x.1 = ow) || decide (stampT M.tc x.2.1 = x.2.2)) = true) c.length ?_ ?_
  · exact ⟨0, rfl, rfl, rfl, rfl, rfl, rfl, rfl⟩
  rintro n T S2 ⟨i, hi, h0, h1, h5, h7, rfl, hall⟩
  by_cases hc : i < c.length
  · have hx := dOw_get hc
    have htk := take_succ_D c (i := i) default hc
    have hmem := getD_mem (d := default) hc
    generalize c.getD i default = q at *
    obtain ⟨qo, qp, qs⟩ := q
    rw [oD_mk] at hx
    simp -implicitDefEqProofs (disch := omega) only [seval, go_sem, h0, h1, h5, h7, hdl, hx, hbox]
    refine drW_at [(0, 0), (1, 0), (2, 0), (3, 0), (4, 0), (5, 0), (6, 0), (7, 0), (8, 0), (9, 0), (10, 0), (11, 0), (12, 0), (13, 0), (15, 0), (16, 0), (17, 0), (18, 0), (19, 0), (14, 1), (20, 0), (21, 0)] followsN (by kernel_rfl) ?_
    by_cases hq : qo = ow
    · have hdq : decide (qo = ow) = true := decide_eq_true hq
      simp -implicitDefEqProofs (disch := omega) only [seval, go_sem, h0, h1, h5, h7, hdl, hx, hbox, hdq]
      refine c_r10_Stamp (M := M) ?_ hb
      by_cases hs : stampT M.tc qp = qs
      · have hds : decide ((stampT M.tc qp).toNat = qs.toNat) = true := decide_eq_true (by rw [hs])
        have hds2 : ((stampT M.tc qp).toNat : Int) = (qs.toNat : Int) := by rw [hs]
        simp -implicitDefEqProofs (disch := omega) only [seval, go_sem, h0, h1, h5, h7, hdl, hx, hbox, hdq, hs]
        exact ⟨n - 1, by omega, i + 1, by omega, h0, h1, h5, rfl, rfl, by rw [htk, List.all_append, hall]; simp [hs]⟩
      · have hno : c.all (fun x => !decide (x.1 = ow) || decide (stampT M.tc x.2.1 = x.2.2)) = false := by
          rw [List.all_eq_false]
          exact ⟨_, hmem, by simp [hq, hs]⟩
        have hns : ¬ ((stampT M.tc qp).toNat : Int) = (qs.toNat : Int) := fun h => hs (BitVec.eq_of_toNat_eq (by omega))
        rw [hno]
        simp -implicitDefEqProofs (disch := omega) only [seval, go_sem, h0, h1, h5, h7, hdl, hx, hbox, hdq]
        exact ⟨.lit _, hkp⟩
    · have hdq : decide (qo = ow) = false := decide_eq_false hq
      simp -implicitDefEqProofs (disch := omega) only [seval, go_sem, h0, h1, h5, h7, hdl, hx, hbox, hdq]
      exact ⟨n - 1, by omega, i + 1, by omega, h0, h1, h5, rfl, rfl, by rw [htk, List.all_append, hall]; simp [hq]⟩
  · rw [List.take_of_length_le (by omega)] at hall
    rw [hall]
    simp -implicitDefEqProofs (disch := omega) only [seval, go_sem, h0, h1, h5, h7, hdl]
    exact ⟨.lit _, hkp⟩
end
end Go.Proofs.YtoldjfappfbfbaaGreatDoor
namespace Go.Proofs.YtoldjfappfbfbaaGreatDoor
open Go.RowKit TL
/-- An owner's claims, in the document. -/
def clOf (c : List ClO) (o : Int) : List Cl := (c.filter fun x => decide (x.1 = o)).map (·.2)
theorem clOf_snoc (c : List ClO) (x : ClO) (o : Int) : clOf (c ++ [x]) o = if o = x.1 then clOf c o ++ [x.2] else clOf c o := by
  unfold clOf
  rw [List.filter_append, List.map_append]
  by_cases h : x.1 = o
  · rw [if_pos h.symm]; simp [h]
  · rw [if_neg (fun e => h e.symm)]; simp [h]
theorem clOf_drop (c : List ClO) (w o : Int) : clOf (c.filter fun x => !decide (x.1 = w)) o = if o = w then [] else clOf c o := by
  unfold clOf
  rw [List.filter_filter]
  by_cases h : o = w
  · rw [if_pos h, List.map_eq_nil_iff, List.filter_eq_nil_iff]
    intro x _
    by_cases hx : x.1 = o <;> simp [hx, h]
  · rw [if_neg h]
    congr 1
    refine List.filter_congr fun x _ => ?_
    by_cases hx : x.1 = o <;> simp [hx, h]
theorem fresh_eq (c : List ClO) (o : Int) (tc : List (Bs × BitVec 64)) : ((clOf c o).all fun x => decide (stampT tc x.1 = x.2)) = c.all fun x => !decide (x.1 = o) || decide (stampT tc x.2.1 = x.2.2) := by
  unfold clOf
  rw [List.all_map, List.all_filter]
  rfl
theorem clOf_len (c : List ClO) (o : Int) : (clOf c o).length = (c.filter fun x => decide (x.1 = o)).length := List.length_map _
/-- Who has some of the first so many. -/
def owL (c : List ClO) (k : Nat) : List Int := ((List.range k).filter fun (j : Nat) => decide (clOf c (j : Int) ≠ [])).map fun (j : Nat) => (j : Int)
theorem owL_succ (c : List ClO) (k : Nat) : owL c (k + 1) = owL c k ++ (if clOf c (k : Int) ≠ [] then [(k : Int)] else []) := by
  unfold owL
  rw [List.range_succ, List.filter_append, List.map_append]
  by_cases h : clOf c (k : Int) = [] <;> simp [h]
theorem owL_len (c : List ClO) (k : Nat) : (owL c k).length ≤ k := by
  unfold owL
  rw [List.length_map]
  exact Nat.le_trans (List.length_filter_le _ _) (by rw [List.length_range]; exact Nat.le_refl _)
theorem owL_sorted (c : List ClO) (k : Nat) : (owL c k).Pairwise (· < ·) := by
  unfold owL
  rw [List.pairwise_map]
  exact (List.pairwise_lt_range.filter _).imp fun h => by omega
theorem owL_mem {c : List ClO} (h : ∀ x ∈ c, 0 ≤ x.1 ∧ x.1 < 4) (o : Int) : o ∈ owL c 5 ↔ clOf c o ≠ [] := by
  unfold owL
  rw [List.mem_map]
  constructor
  · rintro ⟨j, hj, rfl⟩
    simpa using (List.mem_filter.1 hj).2
  · intro ho
    obtain ⟨x, hx⟩ := List.exists_mem_of_ne_nil _ ho
    obtain ⟨y, hy, _⟩ := List.mem_map.1 hx
    have h2 := List.mem_filter.1 hy
    have h3 := h y h2.1
    have h4 : y.1 = o := by simpa using h2.2
    refine ⟨o.toNat, List.mem_filter.2 ⟨List.mem_range.2 (by omega), ?_⟩, by omega⟩
    rw [show ((o.toNat : Nat) : Int) = o from by omega]
    simpa using ho
theorem owL_bd {c : List ClO} {k : Nat} (hk : k ≤ 5) : ∀ o ∈ owL c k, -9223372036854775808 ≤ o ∧ o ≤ 9223372036854775807 := by
  intro o ho
  unfold owL at ho
  obtain ⟨j, hj, rfl⟩ := List.mem_map.1 ho
  have := List.mem_range.1 (List.mem_filter.1 hj).1
  omega
theorem put_tc {M : StM} {l : List RowM} (hr : ∀ r ∈ l, r.refs.length ≤ 255) : (putM M l).1.tc.length ≤ M.tc.length + 256 * l.length := by
  unfold putM
  split
  · exact Nat.le_add_right _ _
  split
  · exact Nat.le_add_right _ _
  show (M.tc ++ List.map _ _).length ≤ _
  have h1 := touch_len (fr := (putF M.L l []).2) fun r h => by
    rcases putF_sub M.L l [] r h with h | h
    · cases h
    · exact hr r h
  have h2 := putF_len M.L l []
  simp only [List.length_nil] at h2
  rw [List.length_append, List.length_map]
  omega
theorem root_tc (M : StM) (p : Bs) : (rootM M p).1.tc.length ≤ M.tc.length + 1 := by
  unfold rootM
  split
  · exact Nat.le_add_right _ _
  split
  · exact Nat.le_add_right _ _
  split
  · exact Nat.le_add_right _ _
  · show (M.tc ++ List.map _ _).length ≤ _
    rw [List.length_append]
    exact Nat.le_refl _
theorem cut_tc {M : StM} (hr : ∀ r ∈ M.L, r.refs.length ≤ 255) (g : List Bs) : (cutM M g).tc.length ≤ M.tc.length + 256 * M.L.length := by
  show (M.tc ++ List.map _ _).length ≤ _
  have h1 := touch_len (fr := M.L.filter fun r => decide (r.path ∈ g)) fun r h => hr r (List.mem_filter.1 h).1
  have h2 := List.length_filter_le (fun r : RowM => decide (r.path ∈ g)) M.L
  rw [List.length_append, List.length_map]
  omega
theorem delete_tc {M : StM} (hr : ∀ r ∈ M.L, r.refs.length ≤ 255) (p : Bs) : (deleteM M p).1.tc.length ≤ M.tc.length + 256 * M.L.length := by
  unfold deleteM
  split
  · exact Nat.le_add_right _ _
  split
  · exact Nat.le_add_right _ _
  · exact cut_tc hr _
theorem Inv.r255 {M : StM} (h : Inv M) : ∀ r ∈ M.L, r.refs.length ≤ 255 := fun r hr => refs255 (h.wf.fit r hr)
theorem MadeOk.r255 {l : List RowM} (h : MadeOk l) : ∀ r ∈ l, RowB r ∧ r.refs.length ≤ 255 := fun r hr => ⟨h.rb r hr, refs255 (h.ch.fit r hr)⟩
set_option maxRecDepth 8000 in
set_option maxHeartbeats 1000000 in
theorem c_r16_DropR {S : TS} {c : List ClO} {ow : Int} {g : Tag} {K : TV → TS → Prop} (hK : K (.sl (.own S.n) 3 (dOw (c.filter fun x => !decide (x.1 = ow)))) (S.push .lin)) (hl : c.length ≤ 1000000) : TCall env 28 [.sl g 3 (dOw c), .lit (.int .i64 ow)] S K := by
  refine (TCall.row (s := 3) (xs := dOw (c.filter fun x => !decide (x.1 = ow))) ?_).mono fun t S' ⟨h1, h2⟩ => by rw [h1, h2]; exact hK
  have hdl := dOw_len c
  refine TCall.w 28 [.tmp 4] Tryz.func28 rfl rfl rfl rfl (by kernel_rfl) rfl ?_
  simp -implicitDefEqProofs (disch := omega) only [seval, go_sem]
  refine loW.asRow 5 3 rfl (.inl rfl) ?_
  refine loW_inv (fun n T S' => ∃ (i k : Nat), n + i = c.length ∧ T 0 = .sl g 3 (dOw c) ∧ T 1 = .lit (.int .i64 ow) ∧ T 5 = .sl (.own k) 3 (dOw ((c.take i).filter fun x => !decide (x.1 = ow))) ∧ T 6 = .lit (.int .i64 (i : Int)) ∧ S'.objs k = .lin ∧ S.n ≤ k ∧ k < S'.n ∧ Keep S S') c.length ?_ ?_
  · exact ⟨0, S.n, rfl, rfl, rfl, rfl, rfl, push_self _ _, Nat.le_refl _, Nat.lt_succ_self _, Keep.push _ _⟩
  rintro n T S2 ⟨i, k, hi, h0, h1, h5, h6, hk, hk1, hk2, hkp⟩
  have hpl := dOw_len ((c.take i).filter fun x => !decide (x.1 = ow))
  have hpl2 : ((c.take i).filter fun x => !decide (x.1 = ow)).length ≤ i := Nat.le_trans (List.length_filter_le _ _) (by rw [List.length_take]; omega)
  by_cases hc : i < c.length
  · have hx := dOw_get hc
    have htk := take_succ_D c (i := i) default hc
    generalize c.getD i default = q at *
    obtain ⟨qo, qp, qs⟩ := q
    rw [oD_mk] at hx
    simp -implicitDefEqProofs (disch := omega) only [seval, go_sem, h0, h1, h5, h6, hdl, hx]
    by_cases hq : qo = ow
    · have hdq : decide (qo = ow) = true := decide_eq_true hq
      have hnq : decide (qo ≠ ow) = false := decide_eq_false (fun h => h hq)
      first | refine cdK_d (fun hq2 => absurd hq (by simpa using hq2)) (fun hq2 => ?_) | skip
      simp -implicitDefEqProofs (disch := omega) only [seval, go_sem, h0, h1, h5, h6, hdl, hx, hk, hpl, hdq, hnq]
      refine ⟨n - 1, by omega, i + 1, k, by omega, h0, h1, ?_, rfl, hk, hk1, hk2, hkp⟩
      rw [htk, List.filter_append, List.filter_cons, if_neg (by simp [hq]), List.filter_nil, List.append_nil]
      exact h5
    · have hdq : decide (qo = ow) = false := decide_eq_false hq
      have hnq : decide (qo ≠ ow) = true := decide_eq_true hq
      first | refine cdK_d (fun hq2 => ?_) (fun hq2 => absurd hq (by simpa using hq2)) | skip
      simp -implicitDefEqProofs (disch := omega) only [seval, go_sem, h0, h1, h5, h6, hdl, hx, hk, hpl, hdq, hnq]
      refine ⟨rfl, n - 1, by omega, i + 1, S2.n, by omega, h0, h1, ?_, rfl, push_self _ _, by have := hkp.1; omega, Nat.lt_succ_self _, (hkp.set (by omega) _).push' _⟩
      rw [htk, List.filter_append, List.filter_cons, if_pos (by simp [hq]), dOw_app]; rfl
  · rw [List.take_of_length_le (by omega)] at h5
    simp -implicitDefEqProofs (disch := omega) only [seval, go_sem, h0, h1, h5, h6, hdl]
    exact ⟨k, rfl, hk1, hk, hkp⟩
set_option maxRecDepth 8000 in
set_option maxHeartbeats 8000000 in
theorem c_ClaimPlays {x : PlanM} (hb : PlanB x) {l : List ActM} (hl : l.length ≤ LIM) {gl : Tag} {S : TS} {K : TV → TS → Prop} (hK : K (.lit (.bool true)) S) : TCall env 6 [planV x, .sl gl 4 (actL l)] S K := by
  refine TCall.toPure (r := .lit (.bool true)) ?_ hK
  have hda := actL_len x.acts
  have hdm := actL_len l
  have hl' : x.acts.length ≤ 140737488355328 := hb.al
  have hl2 : l.length ≤ 140737488355328 := hl
  rw [planV_mk]
  refine TCall.wp [1, 1, 1, 1, 1, 1, 1] 275 [.tmp 4] Tryz.func6 rfl rfl rfl rfl (by kernel_rfl) rfl ?_
  simp -implicitDefEqProofs (disch := omega) only [seval, go_sem]
  refine c_touched ?_
  have ho : (S.push (.cells 25 [.sl .none 1 (treeL x.trees), .sl .none 4 (actL x.acts)])).objs S.n = .cells 25 [.sl .none 1 (treeL x.trees), .sl .none 4 (actL x.acts)] := push_self _ _
  have hk : Keep S (S.push (.cells 25 [.sl .none 1 (treeL x.trees), .sl .none 4 (actL x.acts)])) := Keep.push _ _
  have hn : S.n < (S.push (.cells 25 [.sl .none 1 (treeL x.trees), .sl .none 4 (actL x.acts)])).n := Nat.lt_succ_self _
  generalize S.push _ = S1 at *
  simp -implicitDefEqProofs (disch := omega) only [seval, go_sem, ho, hda]
  refine c_small16 hb ?_
  cases hs : smallB x with
  | false =>
    simp -implicitDefEqProofs (disch := omega) only [seval, go_sem, ho, hda]
    refine c_touched ?_
    simp -implicitDefEqProofs (disch := omega) only [seval, go_sem]
    exact ⟨.lit _, hk⟩
  | true =>
    by_cases hm60 : 60 < l.length
    · simp -implicitDefEqProofs (disch := omega) only [seval, go_sem, ho, hda, hdm]
      refine c_touched ?_
      simp -implicitDefEqProofs (disch := omega) only [seval, go_sem]
      exact ⟨.lit _, hk⟩
    have hps := small_of hs
    simp -implicitDefEqProofs (disch := omega) only [seval, go_sem, ho, hda, hdm]
    refine c_Begin (Nat.le_trans hps.tl (by decide)) hps.ml hps.dl fun ars har => ?_
    rw [worldV_mk]
    simp -implicitDefEqProofs (disch := omega) only [seval, go_sem, ho, hda]
    have hoW : (S1.push (.cells 35 [.sl .none 1 (gD fW), .sl .none 1 (gD kW), .sl .none 1 (dBB ars), .sl .none 1 (dT names3), .sl .none 1 (dT [path0])])).objs S1.n = .cells 35 [.sl .none 1 (gD fW), .sl .none 1 (gD kW), .sl .none 1 (dBB ars), .sl .none 1 (dT names3), .sl .none 1 (dT [path0])] := push_self _ _
    have hoP : (S1.push (.cells 35 [.sl .none 1 (gD fW), .sl .none 1 (gD kW), .sl .none 1 (dBB ars), .sl .none 1 (dT names3), .sl .none 1 (dT [path0])])).objs S.n = .cells 25 [.sl .none 1 (treeL x.trees), .sl .none 4 (actL x.acts)] := psh_old0 ho hn
    have hkW : Keep S (S1.push (.cells 35 [.sl .none 1 (gD fW), .sl .none 1 (gD kW), .sl .none 1 (dBB ars), .sl .none 1 (dT names3), .sl .none 1 (dT [path0])])) := hk.push' _
    have hnW : S1.n < (S1.push (.cells 35 [.sl .none 1 (gD fW), .sl .none 1 (gD kW), .sl .none 1 (dBB ars), .sl .none 1 (dT names3), .sl .none 1 (dT [path0])])).n := Nat.lt_succ_self _
    generalize S1.push (.cells 35 [.sl .none 1 (gD fW), .sl .none 1 (gD kW), .sl .none 1 (dBB ars), .sl .none 1 (dT names3), .sl .none 1 (dT [path0])]) = S1b at *
    refine c_Store_new fun S2a s I h1a hf1a hk1a => ?_
    simp -implicitDefEqProofs (disch := omega) only [seval, go_sem, ho, hda]
    refine c_r10_New ?_
    rw [refV_mk]
    simp -implicitDefEqProofs (disch := omega) only [seval, go_sem, ho, hda]
    have hm7 : (S2a.push (.cells 66 [.sl .none 1 (gD fW), .sl .none 1 (gD kW), .sl .none 4 (dR StM.new.L), .sl .none 1 (dT StM.new.roots), .lit (w64 StM.new.ver), .sl .none 2 (dC StM.new.tc)])).objs S2a.n = .cells 66 [.sl .none 1 (gD fW), .sl .none 1 (gD kW), .sl .none 4 (dR StM.new.L), .sl .none 1 (dT StM.new.roots), .lit (w64 StM.new.ver), .sl .none 2 (dC StM.new.tc)] := push_self _ _
    have hk2b : Keep S2a (S2a.push (.cells 66 [.sl .none 1 (gD fW), .sl .none 1 (gD kW), .sl .none 4 (dR StM.new.L), .sl .none 1 (dT StM.new.roots), .lit (w64 StM.new.ver), .sl .none 2 (dC StM.new.tc)])) := Keep.push _ _
    have hn2b : S2a.n < (S2a.push (.cells 66 [.sl .none 1 (gD fW), .sl .none 1 (gD kW), .sl .none 4 (dR StM.new.L), .sl .none 1 (dT StM.new.roots), .lit (w64 StM.new.ver), .sl .none 2 (dC StM.new.tc)])).n := Nat.lt_succ_self _
    have h1b := StG.keep h1a hk2b
    generalize S2a.push (.cells 66 [.sl .none 1 (gD fW), .sl .none 1 (gD kW), .sl .none 4 (dR StM.new.L), .sl .none 1 (dT StM.new.roots), .lit (w64 StM.new.ver), .sl .none 2 (dC StM.new.tc)]) = S2b at *
    refine c_Book_new fun S2 b F h5 hF5 hk5 => ?_
    have h1 : StOk S2 s I .new := StG.keep h1b hk5
    have hm72 := (hk5.2 _ hn2b).trans hm7
    have hk1 := (hk1a.trans hk2b).trans hk5
    have hoW2 := (hk1.2 _ hnW).trans hoW
    have hoP2 := (hk1.2 _ (Nat.lt_trans hn hnW)).trans hoP
    have hn2 := hk1.1
    have hn25 := hk5.1
    have hn1a := hk1a.1
    have hkS := hkW.trans hk1
    have hf1 : ∀ id, stF s I id → S1b.n ≤ id ∧ id < S2a.n := fun id h => ⟨hf1a id h, h1a.flt id h⟩
    simp -implicitDefEqProofs (disch := omega) only [seval, go_sem, ho, hda]
    refine stW.cut (fun T S' => ∃ (k : Nat) (made : List RowM), made.length ≤ 12 ∧ MadeOk made ∧ T 1 = .sl gl 4 (actL l) ∧ T 6 = .ptr s 0 ∧ T 7 = .ptr S2a.n 0 ∧ T 8 = .ptr b 0 ∧ T 9 = .sl .full 0 [] ∧ T 10 = .sl (.own k) 4 (dR made) ∧ S2.n ≤ k ∧ k < S'.n ∧ Keep S2 S') ?_ ?_
    · simp -implicitDefEqProofs (disch := omega) only [seval, go_sem, ho, hda]
      refine loW.asRow 10 4 rfl (.inl rfl) ?_
      refine loW_inv (fun n T S' => ∃ (i k : Nat) (made : List RowM), n + i = x.acts.length ∧ made.length = i ∧ i ≤ 12 ∧ MadeOk made ∧ T 1 = .sl gl 4 (actL l) ∧ T 2 = .ptr S.n 0 ∧ T 5 = .ptr S1.n 0 ∧ T 6 = .ptr s 0 ∧ T 7 = .ptr S2a.n 0 ∧ T 8 = .ptr b 0 ∧ T 9 = .sl .full 0 [] ∧ T 10 = .sl (.own k) 4 (dR made) ∧ T 11 = .lit (.int .i64 (i : Int)) ∧ S'.objs k = .lin ∧ S2.n ≤ k ∧ k < S'.n ∧ Keep S2 S') x.acts.length ?_ ?_
      · exact ⟨0, S2.n, [], rfl, rfl, by omega, MadeOk.nil, rfl, rfl, rfl, rfl, rfl, rfl, rfl, rfl, rfl, push_self _ _, Nat.le_refl _, Nat.lt_succ_self _, Keep.push _ _⟩
      rintro n T S3 ⟨i, k, made, hi, hmi, hi12, hmo, e1, e2, e5, e6, e7, e8, e9, e10, e11, hok, hk2, hkn, hk3⟩
      have hn3 := hk3.1
      have hoW3 := (hk3.2 _ (by omega)).trans hoW2
      have hoP3 := (hk3.2 _ (by omega)).trans hoP2
      have hdr := dR_len made
      by_cases hc : i < x.acts.length ∧ i < 12
      · obtain ⟨hc, hc12⟩ := hc
        have hx := actL_get hc
        generalize x.acts.getD i default = y at *
        rw [actD_mk] at hx
        simp -implicitDefEqProofs (disch := omega) only [seval, go_sem, e1, e2, e5, e6, e7, e8, e9, e10, e11, hoP3, hoW3, hda, hx]
        have hy4 : (y.more % 4#8).toNat < 4 := by rw [BitVec.toNat_umod]; exact Nat.mod_lt _ (by decide)
        have hgr : rowG ars made ⟨y.do_, y.a, y.b, y.more % 4#8⟩ = rowM ars made y.a.toNat y.b.toNat ((y.more % 4#8).toNat % 4) := rowG_ok hmo.ip (by show (y.more % 4#8).toNat < 250; omega)
        have hsn := hmo.snoc har.b y.a.toNat y.b.toNat (n := (y.more % 4#8).toNat % 4) (by omega)
        rw [← hgr] at hsn
        refine c_row16 (x := ⟨y.do_, y.a, y.b, y.more % 4#8⟩) har hmo.rb (by omega) ?_
        generalize rowG ars made ⟨y.do_, y.a, y.b, y.more % 4#8⟩ = r at *
        have hok' : ∀ o, (S3.push o).objs k = .lin := fun o => psh_old0 hok hkn
        rw [rowN_mk]
        simp -implicitDefEqProofs (disch := omega) only [seval, go_sem, e1, e2, e5, e6, e7, e8, e9, e10, e11, hok', hdr]
        refine ⟨rfl, n - 1, by omega, i + 1, S3.n + 1, made ++ [r], by omega, by simp [hmi], by omega, hsn, e1, e2, e5, e6, e7, e8, e9, ?_, rfl, push_self (TS.push _ _) _, by omega, Nat.lt_succ_self _, ((hk3.set (by omega) _).push' _).push' _⟩
        rw [dR_app]; rfl
      by_cases hcc : i < x.acts.length
      · have h12 : ¬ i < 12 := fun h => hc ⟨hcc, h⟩
        simp -implicitDefEqProofs (disch := omega) only [seval, go_sem, e1, e2, e5, e6, e7, e8, e9, e10, e11, hoP3, hoW3, hda]
        exact ⟨k, made, by omega, hmo, e1, e6, e7, e8, e9, e10, hk2, hkn, hk3⟩
      · simp -implicitDefEqProofs (disch := omega) only [seval, go_sem, e1, e2, e5, e6, e7, e8, e9, e10, e11, hoP3, hoW3, hda]
        exact ⟨k, made, by omega, hmo, e1, e6, e7, e8, e9, e10, hk2, hkn, hk3⟩
    rintro T S3 ⟨k, made, hml, hmo, e1, e6, e7, e8, e9, e10, hk2, hkn, hk3⟩
    have hn3 := hk3.1
    have hdr := dR_len made
    have hkA : Keep S S3 := hkS.trans hk3
    have g3 : StOk S3 s I .new := StG.keep h1 hk3
    have b3 := h5.keep hk3
    have hm73 := (hk3.2 _ (by omega)).trans hm72
    simp -implicitDefEqProofs (disch := omega) only [seval, go_sem, e1, e6, e7, e8, e9, e10]
    refine loW.asRow 9 3 e9 (.inl rfl) ?_
    refine loW_invP [1, 0, 2, 1, 1] (fun n T S' => ∃ (i : Nat) (M : StM) (I' : StI) (c : List ClO) (lf : Int → List Cl) (F' : Nat → Prop) (k9 : Nat), n + i = l.length ∧ Inv M ∧ M.tc.length ≤ 16640 * i ∧ StOk S' s I' M ∧ BkS S' b lf F' ∧ (∀ o, lf o = clOf c o) ∧ c.length ≤ i ∧ (∀ y ∈ c, 0 ≤ y.1 ∧ y.1 < 4) ∧ (∀ id, stF s I' id → S1b.n ≤ id ∧ ¬ F' id ∧ id ≠ S2a.n ∧ id ≠ k9) ∧ (∀ id, F' id → S1b.n ≤ id ∧ id ≠ S2a.n ∧ id ≠ k9) ∧
      S'.objs S2a.n = .cells 66 [.sl .none 1 (gD fW), .sl .none 1 (gD kW), .sl .none 4 (dR M.L), .sl .none 1 (dT M.roots), .lit (w64 M.ver), .sl .none 2 (dC M.tc)] ∧ S'.objs k9 = .lin ∧ S1b.n ≤ k9 ∧ k9 ≠ S2a.n ∧ k9 < S'.n ∧ S2a.n < S'.n ∧ T 1 = .sl gl 4 (actL l) ∧ T 6 = .ptr s 0 ∧ T 7 = .ptr S2a.n 0 ∧ T 8 = .ptr b 0 ∧ T 9 = .sl (.own k9) 3 (dOw c) ∧ T 10 = .sl (.own k) 4 (dR made) ∧ T 13 = .lit (.int .i64 (i : Int)) ∧ S1b.n ≤ S'.n ∧ Keep S S') l.length ?_ ?_
    · refine ⟨0, .new, I, [], _, F, S3.n, rfl, Inv.new, Nat.le_refl _, StG.keep g3 (Keep.push _ _), b3.keep (Keep.push _ _), fun o => rfl, Nat.le_refl _, (fun y h => by cases h), ?_, ?_, psh_old0 hm73 (by omega), push_self _ _, by omega, by omega, Nat.lt_succ_self _, by show S2a.n < S3.n + 1; omega, e1, e6, e7, e8, rfl, e10, rfl, by show S1b.n ≤ S3.n + 1; omega, hkA.push' _⟩
      · intro id h
        have h2 := hf1 id h
        exact ⟨h2.1, fun hf => by have := hF5 id hf; omega, by omega, by omega⟩
      · intro id hf
        have := hF5 id hf
        have := b3.flt id hf
        exact ⟨by omega, by omega, by omega⟩
    clear e1 e6 e7 e8 e9 e10 hkn
    rintro n T S4 ⟨i, M, I4, c, lf, F4, k9, hi, hiv, htc, g4, h4, hlf, hcl, hco, hsep, hsepF, hm7, hk9, a1, a2, a3, a4, e1, e6, e7, e8, e9, e10, e13, a5, hkp⟩
    by_cases hci : i < l.length
    rotate_left
    · simp -implicitDefEqProofs (disch := omega) only [seval, go_sem, e1, e6, e7, e8, e9, e10, e13, hdm]
      exact ⟨.lit _, hkp⟩
    have hx := actL_get hci
    have hxr := getD_mem (d := default) hci
    generalize l.getD i default = y at *
    rw [actD_mk] at hx
    have hy4 : (y.a % 4#8).toNat < 4 := by rw [BitVec.toNat_umod]; exact Nat.mod_lt _ (by decide)
    simp -implicitDefEqProofs (disch := omega) only [seval, go_sem, e1, e6, e7, e8, e9, e10, e13, hdm, hx]
    refine stW.cutP [] (fun T S' => ∃ pth : Bs, pth.length ≤ 100000 ∧ S' = S4 ∧ T 1 = .sl gl 4 (actL l) ∧ T 6 = .ptr s 0 ∧ T 7 = .ptr S2a.n 0 ∧ T 8 = .ptr b 0 ∧ T 9 = .sl (.own k9) 3 (dOw c) ∧ T 10 = .sl (.own k) 4 (dR made) ∧ T 13 = .lit (.int .i64 (i : Int)) ∧ T 14 = .lit (.int .i64 ((y.a % 4#8).toNat : Int)) ∧ T 15 = .lit (.string (st pth))) ?_ ?_
    · by_cases hm0 : 0 < made.length
      · have hlt2 : y.b.toNat % made.length < made.length := Nat.mod_lt _ hm0
        have htm : ((y.b.toNat : Int)).tmod (made.length : Int) = ((y.b.toNat % made.length : Nat) : Int) := (Int.ofNat_tmod _ _).symm
        have hx2 := dR_get hlt2
        have hrp := (hmo.rb _ (getD_mem (d := default) hlt2)).pt
        generalize made.getD (y.b.toNat % made.length) default = r at *
        rw [rowD_mk] at hx2
        simp -implicitDefEqProofs (disch := omega) only [seval, go_sem, e1, e6, e7, e8, e9, e10, e13, hdm, hx, hdr, htm, hx2]
        exact ⟨r.path, hrp, rfl, e1, e6, e7, e8, e9, e10, e13, rfl, rfl⟩
      · simp -implicitDefEqProofs (disch := omega) only [seval, go_sem, e1, e6, e7, e8, e9, e10, e13, hdm, hx, hdr]
        exact ⟨[UInt8.toBitVec 120], by simp, rfl, e1, e6, e7, e8, e9, e10, e13, rfl, rfl⟩
    clear e1 e6 e7 e8 e9 e10 e13
    rintro T S5 ⟨pth, hpth, rfl, e1, e6, e7, e8, e9, e10, e13, e14, e15⟩
    simp -implicitDefEqProofs (disch := omega) only [seval, go_sem]
    have hb5 : RefB M := ⟨Nat.le_trans hiv.ll (by decide), Nat.le_trans hiv.rl (by decide), by omega⟩
    refine stW.cut (fun T S' => (∃ (M : StM) (I' : StI) (c : List ClO) (lf : Int → List Cl) (F' : Nat → Prop) (k9 : Nat), Inv M ∧ M.tc.length ≤ 16640 * (i + 1) ∧ StOk S' s I' M ∧ BkS S' b lf F' ∧ (∀ o, lf o = clOf c o) ∧ c.length ≤ i + 1 ∧ (∀ y ∈ c, 0 ≤ y.1 ∧ y.1 < 4) ∧ (∀ id, stF s I' id → S1b.n ≤ id ∧ ¬ F' id ∧ id ≠ S2a.n ∧ id ≠ k9) ∧ (∀ id, F' id → S1b.n ≤ id ∧ id ≠ S2a.n ∧ id ≠ k9) ∧ S'.objs S2a.n = .cells 66 [.sl .none 1 (gD fW), .sl .none 1 (gD kW), .sl .none 4 (dR M.L), .sl .none 1 (dT M.roots), .lit (w64 M.ver), .sl .none 2 (dC M.tc)] ∧ S'.objs k9 = .lin ∧ S1b.n ≤ k9 ∧ k9 ≠ S2a.n ∧ k9 < S'.n ∧ S2a.n < S'.n ∧ T 1 = .sl gl 4 (actL l) ∧ T 6 = .ptr s 0 ∧ T 7 = .ptr S2a.n 0 ∧ T 8 = .ptr b 0 ∧ T 9 = .sl (.own k9) 3 (dOw c) ∧ T 10 = .sl (.own k) 4 (dR made) ∧ T 13 = .lit (.int .i64 (i : Int)) ∧ S1b.n ≤ S'.n ∧ Keep S S')) ?_ ?_
    · have hd8 : (y.do_ % 8#8).toNat < 8 := by rw [BitVec.toNat_umod]; exact Nat.mod_lt _ (by decide)
      by_cases qa : (y.do_ % 8#8).toNat < 3
      · rcases (show (y.do_ % 8#8).toNat = 0 ∨ (y.do_ % 8#8).toNat = 1 ∨ (y.do_ % 8#8).toNat = 2 by omega) with q | q | q
        all_goals (
        simp -implicitDefEqProofs (disch := omega) only [seval, go_sem, e1, e6, e7, e8, e9, e10, e13, e14, e15, hdm, hx, hdr, hm7]
        refine c_r10_Stamp (M := M) ?_ hb5
        by_cases hb7 : y.more.toNat = 7
        · simp -implicitDefEqProofs (disch := omega) only [seval, go_sem, e1, e6, e7, e8, e9, e10, e13, e14, e15, hdm, hx, hdr, hm7]
          refine c_Note2 h4 (fun S7 F7 l7 h7 hl7 hlo7 fr7 sb7 => ?_) (by omega) (by rw [hlf, clOf_len]; exact Nat.le_trans (List.length_filter_le _ _) (by omega))
          have hk97 : S7.objs k9 = .lin := (fr7.o k9 a3 (fun hf => (hsepF k9 hf).2.2 rfl)).trans hk9
          have hdo := dOw_len c
          simp -implicitDefEqProofs (disch := omega) only [seval, go_sem, e1, e6, e7, e8, e9, e10, e13, e14, e15, hdm, hx, hdr, hk97, hdo]
          have hm77 : S7.objs S2a.n = .cells 66 [.sl .none 1 (gD fW), .sl .none 1 (gD kW), .sl .none 4 (dR M.L), .sl .none 1 (dT M.roots), .lit (w64 M.ver), .sl .none 2 (dC M.tc)] := (fr7.o _ a4 (fun hf => (hsepF _ hf).2.1 rfl)).trans hm7
          have hn7 := fr7.n
          have hold : ∀ {id}, id < S7.n → id ≠ k9 → ((S7.set k9 .gone).push .lin).objs id = S7.objs id := fun h1 h2 => psh_old0 (st_old _ h2) h1
          refine ⟨rfl, M, I4, c ++ [((((y.a % 4#8).toNat : Nat) : Int), pth, stampT M.tc pth + 1#64)], l7, F7, S7.n, hiv, by omega, StG.fr (StG.frm g4 fr7 fun id hid => (hsep id hid).2.1) (Nat.le_succ _) (fun id hid => hold (by have := StG.flt g4 id hid; omega) (hsep id hid).2.2.2), h7.fr (Nat.le_succ _) (fun id hid => hold (h7.flt id hid) (fun e => by
            rcases sb7 id hid with h | h
            · exact (hsepF id h).2.2 e
            · omega)), ?_, by simp; omega, ?_, ?_, ?_, (hold (by omega) (fun e => a2 e.symm)).trans hm77, push_self _ _, by omega, by omega, Nat.lt_succ_self _, by show S2a.n < S7.n + 1; omega, e1, e6, e7, e8, ?_, e10, e13, by show S1b.n ≤ S7.n + 1; omega, ?_⟩
          · intro o'
            rw [clOf_snoc]
            by_cases ho' : o' = (((y.a % 4#8).toNat : Nat) : Int)
            · rw [if_pos ho', ho', hl7, hlf]
            · rw [if_neg ho', hlo7 _ ho', hlf]
          · intro z hz
            rcases List.mem_append.1 hz with hz | hz
            · exact hco z hz
            · rw [List.mem_singleton.1 hz]; exact ⟨by show (0:Int) ≤ ((y.a % 4#8).toNat : Int); omega, by show ((y.a % 4#8).toNat : Int) < 4; omega⟩
          · intro id hid
            have hlt := StG.flt g4 id hid
            refine ⟨(hsep id hid).1, fun hf => ?_, (hsep id hid).2.2.1, by omega⟩
            rcases sb7 id hf with h | h
            · exact (hsep id hid).2.1 h
            · omega
          · intro id hid
            have hlt := h7.flt id hid
            rcases sb7 id hid with h | h
            · exact ⟨(hsepF id h).1, (hsepF id h).2.1, by omega⟩
            · exact ⟨by omega, by omega, by omega⟩
          · rw [dOw_app]; rfl
          · refine ⟨by show S.n ≤ S7.n + 1; have := hkp.1; omega, fun id hid => ?_⟩
            have := hkp.1
            have := hkW.1
            rw [hold (by omega) (by omega), fr7.o id (by omega) (fun hf => by have := (hsepF id hf).1; omega), hkp.2 id hid]
        · simp -implicitDefEqProofs (disch := omega) only [seval, go_sem, e1, e6, e7, e8, e9, e10, e13, e14, e15, hdm, hx, hdr, hm7]
          refine c_Note2 h4 (fun S7 F7 l7 h7 hl7 hlo7 fr7 sb7 => ?_) (by omega) (by rw [hlf, clOf_len]; exact Nat.le_trans (List.length_filter_le _ _) (by omega))
          have hk97 : S7.objs k9 = .lin := (fr7.o k9 a3 (fun hf => (hsepF k9 hf).2.2 rfl)).trans hk9
          have hdo := dOw_len c
          simp -implicitDefEqProofs (disch := omega) only [seval, go_sem, e1, e6, e7, e8, e9, e10, e13, e14, e15, hdm, hx, hdr, hk97, hdo]
          have hm77 : S7.objs S2a.n = .cells 66 [.sl .none 1 (gD fW), .sl .none 1 (gD kW), .sl .none 4 (dR M.L), .sl .none 1 (dT M.roots), .lit (w64 M.ver), .sl .none 2 (dC M.tc)] := (fr7.o _ a4 (fun hf => (hsepF _ hf).2.1 rfl)).trans hm7
          have hn7 := fr7.n
          have hold : ∀ {id}, id < S7.n → id ≠ k9 → ((S7.set k9 .gone).push .lin).objs id = S7.objs id := fun h1 h2 => psh_old0 (st_old _ h2) h1
          refine ⟨rfl, M, I4, c ++ [((((y.a % 4#8).toNat : Nat) : Int), pth, stampT M.tc pth)], l7, F7, S7.n, hiv, by omega, StG.fr (StG.frm g4 fr7 fun id hid => (hsep id hid).2.1) (Nat.le_succ _) (fun id hid => hold (by have := StG.flt g4 id hid; omega) (hsep id hid).2.2.2), h7.fr (Nat.le_succ _) (fun id hid => hold (h7.flt id hid) (fun e => by
            rcases sb7 id hid with h | h
            · exact (hsepF id h).2.2 e
            · omega)), ?_, by simp; omega, ?_, ?_, ?_, (hold (by omega) (fun e => a2 e.symm)).trans hm77, push_self _ _, by omega, by omega, Nat.lt_succ_self _, by show S2a.n < S7.n + 1; omega, e1, e6, e7, e8, ?_, e10, e13, by show S1b.n ≤ S7.n + 1; omega, ?_⟩
          · intro o'
            rw [clOf_snoc]
            by_cases ho' : o' = (((y.a % 4#8).toNat : Nat) : Int)
            · rw [if_pos ho', ho', hl7, hlf]
            · rw [if_neg ho', hlo7 _ ho', hlf]
          · intro z hz
            rcases List.mem_append.1 hz with hz | hz
            · exact hco z hz
            · rw [List.mem_singleton.1 hz]; exact ⟨by show (0:Int) ≤ ((y.a % 4#8).toNat : Int); omega, by show ((y.a % 4#8).toNat : Int) < 4; omega⟩
          · intro id hid
            have hlt := StG.flt g4 id hid
            refine ⟨(hsep id hid).1, fun hf => ?_, (hsep id hid).2.2.1, by omega⟩
            rcases sb7 id hf with h | h
            · exact (hsep id hid).2.1 h
            · omega
          · intro id hid
            have hlt := h7.flt id hid
            rcases sb7 id hid with h | h
            · exact ⟨(hsepF id h).1, (hsepF id h).2.1, by omega⟩
            · exact ⟨by omega, by omega, by omega⟩
          · rw [dOw_app]; rfl
          · refine ⟨by show S.n ≤ S7.n + 1; have := hkp.1; omega, fun id hid => ?_⟩
            have := hkp.1
            have := hkW.1
            rw [hold (by omega) (by omega), fr7.o id (by omega) (fun hf => by have := (hsepF id hf).1; omega), hkp.2 id hid])
      by_cases q3 : (y.do_ % 8#8).toNat = 3
      · simp -implicitDefEqProofs (disch := omega) only [seval, go_sem, e1, e6, e7, e8, e9, e10, e13, e14, e15, hdm, hx, hdr]
        refine c_Drop2 h4 (fun S7 F7 l7 h7 hl7 hlo7 fr7 sb7 => ?_)
        have hn7 := fr7.n
        simp -implicitDefEqProofs (disch := omega) only [seval, go_sem, e1, e6, e7, e8, e9, e10, e13, e14, e15, hdm, hx, hdr]
        refine c_r16_DropR ?_ (by omega)
        simp -implicitDefEqProofs (disch := omega) only [seval, go_sem, e1, e6, e7, e8, e9, e10, e13, e14, e15, hdm, hx, hdr]
        have hold : ∀ {id}, id < S7.n → (S7.push .lin).objs id = S7.objs id := fun h1 => psh_old0 rfl h1
        refine ⟨M, I4, c.filter fun x => !decide (x.1 = (((y.a % 4#8).toNat : Nat) : Int)), l7, F7, S7.n, hiv, by omega, StG.fr (StG.frm g4 fr7 fun id hid => (hsep id hid).2.1) (Nat.le_succ _) (fun id hid => hold (by have := StG.flt g4 id hid; omega)), h7.fr (Nat.le_succ _) (fun id hid => hold (h7.flt id hid)), ?_, Nat.le_trans (List.length_filter_le _ _) (by omega), fun z hz => hco z (List.mem_filter.1 hz).1, ?_, ?_, (hold (by omega)).trans ((fr7.o _ a4 (fun hf => (hsepF _ hf).2.1 rfl)).trans hm7), push_self _ _, by omega, by omega, Nat.lt_succ_self _, by show S2a.n < S7.n + 1; omega, e1, e6, e7, e8, rfl, e10, e13, by show S1b.n ≤ S7.n + 1; omega, ?_⟩
        · intro o'
          rw [clOf_drop]
          by_cases ho' : o' = (((y.a % 4#8).toNat : Nat) : Int)
          · rw [if_pos ho', ho', hl7]
          · rw [if_neg ho', hlo7 _ ho', hlf]
        · intro id hid
          have hlt := StG.flt g4 id hid
          exact ⟨(hsep id hid).1, fun hf => (hsep id hid).2.1 (sb7 id hf), (hsep id hid).2.2.1, by omega⟩
        · intro id hid
          have hlt := h7.flt id hid
          have h := sb7 id hid
          exact ⟨(hsepF id h).1, (hsepF id h).2.1, by omega⟩
        · refine ⟨by show S.n ≤ S7.n + 1; have := hkp.1; omega, fun id hid => ?_⟩
          have := hkp.1
          have := hkW.1
          rw [hold (by omega), fr7.o id (by omega) (fun hf => by have := (hsepF id hf).1; omega), hkp.2 id hid]
      by_cases q45 : (y.do_ % 8#8).toNat < 6
      · by_cases hm0 : 0 < made.length
        · have hlt2 : y.b.toNat % made.length < made.length := Nat.mod_lt _ hm0
          have htm : ((y.b.toNat : Int)).tmod (made.length : Int) = ((y.b.toNat % made.length : Nat) : Int) := (Int.ofNat_tmod _ _).symm
          have hkk : (1 + y.b.toNat % made.length) ≤ made.length := by omega
          obtain ⟨kk, hkk0⟩ : ∃ kk, 1 + y.b.toNat % made.length = kk := ⟨_, rfl⟩
          have htk : List.take (1 + y.b.toNat % made.length) (dR made) = dR (made.take kk) := by rw [hkk0, dR, dR, List.map_take]
          have hmt := hmo.take kk
          have hlt : (made.take kk).length ≤ 12 := by rw [List.length_take]; omega
          rcases (show (y.do_ % 8#8).toNat = 4 ∨ (y.do_ % 8#8).toNat = 5 by omega) with q | q
          all_goals (
            simp -implicitDefEqProofs (disch := omega) only [seval, go_sem, e1, e6, e7, e8, e9, e10, e13, e14, e15, hdm, hx, hdr, htm, hm7]
            rw [htk]
            refine c_Put g4 hiv.nd (fun r hr => (hmt.r255 r hr).1) (.inl rfl) (by omega) fun S7 I7 g7 t7 => ?_
            have hiv7 := hiv.put (fun r hr => (hmt.r255 r hr).1)
            have htc7 : ((putM M (made.take kk)).1).tc.length ≤ M.tc.length + 16640 := Nat.le_trans (put_tc fun r hr => (hmt.r255 r hr).2) (by omega)
            have hn7 := t7.fr.n
            have hm77 : S7.objs S2a.n = .cells 66 [.sl .none 1 (gD fW), .sl .none 1 (gD kW), .sl .none 4 (dR M.L), .sl .none 1 (dT M.roots), .lit (w64 M.ver), .sl .none 2 (dC M.tc)] := (t7.fr.o _ a4 (fun hf => (hsep _ hf).2.2.1 rfl)).trans hm7
            simp -implicitDefEqProofs (disch := omega) only [seval, go_sem, e1, e6, e7, e8, e9, e10, e13, e14, e15, hdm, hx, hdr, htm, hm77]
            refine drW_at [(0, 0), (1, 0), (2, 0), (3, 0), (4, 2), (5, 0), (6, 0), (7, 0), (8, 4)] followsN (by kernel_rfl) ?_
            simp -implicitDefEqProofs (disch := omega) only [seval, go_sem, e1, e6, e7, e8, e9, e10, e13, e14, e15, hdm, hx, hdr, htm, hm77]
            rw [htk]
            refine c_r10_Put (M := M) ?_ hb5 hiv.ll (by omega) hmt.r255
            generalize (putM M (made.take kk)).1 = M7 at *
            rw [refV_mk M7]
            simp -implicitDefEqProofs (disch := omega) only [seval, go_sem, e1, e6, e7, e8, e9, e10, e13, e14, e15, hdm, hx, hdr, htm, hm77]
            have hI : ∀ id, stF s I7 id → S1b.n ≤ id ∧ ¬ F4 id ∧ id ≠ S2a.n ∧ id ≠ k9 := fun id hid => by
              rcases t7.sub id hid with h | h
              · exact hsep id h
              · exact ⟨by omega, fun hf => by have := h4.flt id hf; omega, by omega, by omega⟩
            have hold : ∀ {id} o, id ≠ S2a.n → (S7.set S2a.n o).objs id = S7.objs id := fun o h => st_old _ h
            refine ⟨M7, I7, c, lf, F4, k9, hiv7, by omega, StG.fr g7 (Nat.le_refl _) (fun id hid => hold _ (hI id hid).2.2.1), (h4.frm t7.fr (fun id hf hs => (hsep id hs).2.1 hf)).fr (Nat.le_refl _) (fun id hid => hold _ (hsepF id hid).2.1), hlf, by omega, hco, hI, hsepF, TS.set_same' _ _ _, (hold _ a2).trans ((t7.fr.o _ a3 (fun hf => (hsep _ hf).2.2.2 rfl)).trans hk9), a1, a2, by show k9 < S7.n; omega, by show S2a.n < S7.n; omega, e1, e6, e7, e8, e9, e10, e13, by show S1b.n ≤ S7.n; omega, ?_⟩
            refine ⟨by show S.n ≤ S7.n; have := hkp.1; omega, fun id hid => ?_⟩
            have := hkp.1
            have := hkW.1
            rw [hold _ (by omega), t7.fr.o id (by omega) (fun hf => by have := (hsep id hf).1; omega), hkp.2 id hid])
        · rcases (show (y.do_ % 8#8).toNat = 4 ∨ (y.do_ % 8#8).toNat = 5 by omega) with q | q
          all_goals (
            simp -implicitDefEqProofs (disch := omega) only [seval, go_sem, e1, e6, e7, e8, e9, e10, e13, e14, e15, hdm, hx, hdr]
            exact ⟨M, I4, c, lf, F4, k9, hiv, by omega, g4, h4, hlf, by omega, hco, hsep, hsepF, hm7, hk9, a1, a2, a3, a4, e1, e6, e7, e8, e9, e10, e13, a5, hkp⟩)
      by_cases q6 : (y.do_ % 8#8).toNat = 6
      · simp -implicitDefEqProofs (disch := omega) only [seval, go_sem, e1, e6, e7, e8, e9, e10, e13, e14, e15, hdm, hx, hdr, hm7]
        refine c_Root g4 hiv.wf.rs fun S7 g7 t7 => ?_
        have hiv7 := hiv.root pth
        have htc7 : ((rootM M pth).1).tc.length ≤ M.tc.length + 16640 := Nat.le_trans (root_tc M pth) (by omega)
        have hn7 := t7.fr.n
        have hm77 : S7.objs S2a.n = .cells 66 [.sl .none 1 (gD fW), .sl .none 1 (gD kW), .sl .none 4 (dR M.L), .sl .none 1 (dT M.roots), .lit (w64 M.ver), .sl .none 2 (dC M.tc)] := (t7.fr.o _ a4 (fun hf => (hsep _ hf).2.2.1 rfl)).trans hm7
        simp -implicitDefEqProofs (disch := omega) only [seval, go_sem, e1, e6, e7, e8, e9, e10, e13, e14, e15, hdm, hx, hdr, hm77]
        refine c_r10_Root (M := M) ?_ hb5 hiv.rl
        generalize (rootM M pth).1 = M7 at *
        rw [refV_mk M7]
        simp -implicitDefEqProofs (disch := omega) only [seval, go_sem, e1, e6, e7, e8, e9, e10, e13, e14, e15, hdm, hx, hdr, hm77]
        have hI : ∀ id, stF s I4 id → S1b.n ≤ id ∧ ¬ F4 id ∧ id ≠ S2a.n ∧ id ≠ k9 := fun id hid => by
          rcases t7.sub id hid with h | h
          · exact hsep id h
          · exact ⟨by omega, fun hf => by have := h4.flt id hf; omega, by omega, by omega⟩
        have hold : ∀ {id} o, id ≠ S2a.n → (S7.set S2a.n o).objs id = S7.objs id := fun o h => st_old _ h
        refine ⟨M7, I4, c, lf, F4, k9, hiv7, by omega, StG.fr g7 (Nat.le_refl _) (fun id hid => hold _ (hI id hid).2.2.1), (h4.frm t7.fr (fun id hf hs => (hsep id hs).2.1 hf)).fr (Nat.le_refl _) (fun id hid => hold _ (hsepF id hid).2.1), hlf, by omega, hco, hI, hsepF, TS.set_same' _ _ _, (hold _ a2).trans ((t7.fr.o _ a3 (fun hf => (hsep _ hf).2.2.2 rfl)).trans hk9), a1, a2, by show k9 < S7.n; omega, by show S2a.n < S7.n; omega, e1, e6, e7, e8, e9, e10, e13, by show S1b.n ≤ S7.n; omega, ?_⟩
        refine ⟨by show S.n ≤ S7.n; have := hkp.1; omega, fun id hid => ?_⟩
        have := hkp.1
        have := hkW.1
        rw [hold _ (by omega), t7.fr.o id (by omega) (fun hf => by have := (hsep id hf).1; omega), hkp.2 id hid]
      simp -implicitDefEqProofs (disch := omega) only [seval, go_sem, e1, e6, e7, e8, e9, e10, e13, e14, e15, hdm, hx, hdr, hm7]
      refine c_Delete g4 hiv.nd hiv.rb fun S7 I7 g7 t7 => ?_
      have hiv7 := hiv.delete pth
      have htc7 : ((deleteM M pth).1).tc.length ≤ M.tc.length + 16640 := Nat.le_trans (delete_tc hiv.r255 pth) (by have := hiv.ll; omega)
      have hn7 := t7.fr.n
      have hm77 : S7.objs S2a.n = .cells 66 [.sl .none 1 (gD fW), .sl .none 1 (gD kW), .sl .none 4 (dR M.L), .sl .none 1 (dT M.roots), .lit (w64 M.ver), .sl .none 2 (dC M.tc)] := (t7.fr.o _ a4 (fun hf => (hsep _ hf).2.2.1 rfl)).trans hm7
      simp -implicitDefEqProofs (disch := omega) only [seval, go_sem, e1, e6, e7, e8, e9, e10, e13, e14, e15, hdm, hx, hdr, hm77]
      refine c_r10_Delete (M := M) ?_ hb5 (Nat.le_trans hiv.ll (by decide)) hiv.r255
      generalize (deleteM M pth).1 = M7 at *
      rw [refV_mk M7]
      simp -implicitDefEqProofs (disch := omega) only [seval, go_sem, e1, e6, e7, e8, e9, e10, e13, e14, e15, hdm, hx, hdr, hm77]
      have hI : ∀ id, stF s I7 id → S1b.n ≤ id ∧ ¬ F4 id ∧ id ≠ S2a.n ∧ id ≠ k9 := fun id hid => by
        rcases t7.sub id hid with h | h
        · exact hsep id h
        · exact ⟨by omega, fun hf => by have := h4.flt id hf; omega, by omega, by omega⟩
      have hold : ∀ {id} o, id ≠ S2a.n → (S7.set S2a.n o).objs id = S7.objs id := fun o h => st_old _ h
      refine ⟨M7, I7, c, lf, F4, k9, hiv7, by omega, StG.fr g7 (Nat.le_refl _) (fun id hid => hold _ (hI id hid).2.2.1), (h4.frm t7.fr (fun id hf hs => (hsep id hs).2.1 hf)).fr (Nat.le_refl _) (fun id hid => hold _ (hsepF id hid).2.1), hlf, by omega, hco, hI, hsepF, TS.set_same' _ _ _, (hold _ a2).trans ((t7.fr.o _ a3 (fun hf => (hsep _ hf).2.2.2 rfl)).trans hk9), a1, a2, by show k9 < S7.n; omega, by show S2a.n < S7.n; omega, e1, e6, e7, e8, e9, e10, e13, by show S1b.n ≤ S7.n; omega, ?_⟩
      refine ⟨by show S.n ≤ S7.n; have := hkp.1; omega, fun id hid => ?_⟩
      have := hkp.1
      have := hkW.1
      rw [hold _ (by omega), t7.fr.o id (by omega) (fun hf => by have := (hsep id hf).1; omega), hkp.2 id hid]
    clear e1 e6 e7 e8 e9 e10 e13 e14 e15 hsep hsepF hm7 hk9 htc g4 h4 hlf hcl hco hiv hkp hb5 a1 a2 a3 a4 a5
    rintro T S6 ⟨M, I4, c, lf, F4, k9, hiv, htc, g4, h4, hlf, hcl, hco, hsep, hsepF, hm7, hk9, a1, a2, a3, a4, e1, e6, e7, e8, e9, e10, e13, a5, hkp⟩
    simp -implicitDefEqProofs (disch := omega) only [seval, go_sem, e1, e6, e7, e8, e9, e10, e13]
    refine loW.asRow 18 1 rfl (.inl rfl) ?_
    have a6 := h4.flt
    have hsx := StG.flt g4
    refine loW_inv (fun n2 T S' => ∃ (q k18 : Nat), n2 + q = 5 ∧ T 1 = .sl gl 4 (actL l) ∧ T 6 = .ptr s 0 ∧ T 7 = .ptr S2a.n 0 ∧ T 8 = .ptr b 0 ∧ T 9 = .sl (.own k9) 3 (dOw c) ∧ T 10 = .sl (.own k) 4 (dR made) ∧ T 13 = .lit (.int .i64 (i : Int)) ∧ T 18 = .sl (.own k18) 1 (dI (owL c q)) ∧ T 19 = .lit (.int .i64 (q : Int)) ∧ S'.objs k18 = .lin ∧ S6.n ≤ k18 ∧ k18 < S'.n ∧ Keep S6 S') 5 ?_ ?_
    · exact ⟨0, S6.n, rfl, e1, e6, e7, e8, e9, e10, e13, rfl, rfl, push_self _ _, Nat.le_refl _, Nat.lt_succ_self _, Keep.push _ _⟩
    clear e1 e6 e7 e8 e9 e10 e13
    rintro n2 T S7 ⟨q, k18, hq, e1, e6, e7, e8, e9, e10, e13, e18, e19, hk18, b1, b2, hk7⟩
    have g7 : StOk S7 s I4 M := StG.keep g4 hk7
    have h7 := h4.keep hk7
    have hm77 := (hk7.2 _ a4).trans hm7
    have hb5 : RefB M := ⟨Nat.le_trans hiv.ll (by decide), Nat.le_trans hiv.rl (by decide), by omega⟩
    have hol := owL_len c q
    have hdo := dI_len (owL c q)
    by_cases hcq : q < 5
    · have hfl := List.length_filter_le (fun x : ClO => decide (x.1 = (q : Int))) c
      have hlq := hlf (q : Int)
      have hlql : (lf (q : Int)).length ≤ 100 := by rw [hlq, clOf_len]; omega
      simp -implicitDefEqProofs (disch := omega) only [seval, go_sem, e1, e6, e7, e8, e9, e10, e13, e18, e19]
      refine c_OfB h7 ?_ (by omega)
      simp -implicitDefEqProofs (disch := omega) only [seval, go_sem, e1, e6, e7, e8, e9, e10, e13, e18, e19]
      refine c_r16_Of ?_ (by omega)
      have hne : (clOf c (q : Int) = []) ↔ (c.filter fun x => decide (x.1 = (q : Int))) = [] := by unfold clOf; rw [List.map_eq_nil_iff]
      have hosucc := owL_succ c q
      have hcl2 : lf (q : Int) = (c.filter fun x => decide (x.1 = (q : Int))).map (·.2) := hlq
      have hd20 : (dC (lf (q : Int))).length = (c.filter fun x => decide (x.1 = (q : Int))).length := by rw [dC_len, hcl2, List.length_map]
      have hd21 := dOw_len (c.filter fun x => decide (x.1 = (q : Int)))
      have hfeq : ((lf (q : Int)).all fun x => decide (stampT M.tc x.1 = x.2)) = c.all fun x => !decide (x.1 = (q : Int)) || decide (stampT M.tc x.2.1 = x.2.2) := by rw [hlq]; exact fresh_eq c q M.tc
      generalize hFF : (c.filter fun x => decide (x.1 = (q : Int))) = FF at *
      simp -implicitDefEqProofs (disch := omega) only [seval, go_sem, e1, e6, e7, e8, e9, e10, e13, e18, e19]
      refine drW_at [(0, 0), (1, 0), (2, 0), (3, 0), (4, 0), (5, 0), (6, 0), (7, 0), (8, 0), (10, 0), (11, 0), (12, 0), (9, 1), (13, 2), (14, 0), (15, 0)] followsN (by kernel_rfl) ?_
      simp -implicitDefEqProofs (disch := omega) only [seval, go_sem, e1, e6, e7, e8, e9, e10, e13, e18, e19, hd20, hd21, hm77]
      refine c_FreshB h7 g7 ?_ (by omega)
      rw [hfeq]
      simp -implicitDefEqProofs (disch := omega) only [seval, go_sem, e1, e6, e7, e8, e9, e10, e13, e18, e19, hd20, hd21, hm77]
      refine c_r16_Fresh (M := M) ?_ (by omega) hb5
      generalize (c.all fun x => !decide (x.1 = (q : Int)) || decide (stampT M.tc x.2.1 = x.2.2)) = fv
      have hfv : decide (fv ≠ fv) = false := by simp
      simp -implicitDefEqProofs (disch := omega) only [seval, go_sem, e1, e6, e7, e8, e9, e10, e13, e18, e19, hd20, hd21, hm77, hfv]
      refine loW_inv (fun n3 T S' => ∃ j : Nat, n3 + j = FF.length ∧ S' = S7 ∧ T 1 = .sl gl 4 (actL l) ∧ T 6 = .ptr s 0 ∧ T 7 = .ptr S2a.n 0 ∧ T 8 = .ptr b 0 ∧ T 9 = .sl (.own k9) 3 (dOw c) ∧ T 10 = .sl (.own k) 4 (dR made) ∧ T 13 = .lit (.int .i64 (i : Int)) ∧ T 18 = .sl (.own k18) 1 (dI (owL c q)) ∧ T 19 = .lit (.int .i64 (q : Int)) ∧ T 20 = .sl .none 2 (dC (lf (q : Int))) ∧ T 21 = .sl .none 3 (dOw FF) ∧ T 22 = .lit (.int .i64 (j : Int))) FF.length ?_ ?_
      · exact ⟨0, rfl, rfl, e1, e6, e7, e8, e9, e10, e13, e18, e19, rfl, rfl, rfl⟩
      clear e1 e6 e7 e8 e9 e10 e13 e18 e19
      rintro n3 T S8 ⟨j, hj, rfl, e1, e6, e7, e8, e9, e10, e13, e18, e19, e20, e21, e22⟩
      by_cases hcj : j < FF.length
      · have hy1 := dOw_get hcj
        have hy2 := dC_get (l := lf (q : Int)) (i := j) (by rw [hcl2, List.length_map]; exact hcj)
        have hy3 : (lf (q : Int)).getD j default = (FF.getD j default).2 := by
          rw [hcl2, List.getD_eq_getElem?_getD, List.getElem?_map, List.getD_eq_getElem?_getD, List.getElem?_eq_getElem hcj]; rfl
        rw [hy3] at hy2
        generalize FF.getD j default = z at *
        obtain ⟨zo, zp, zs⟩ := z
        rw [oD_mk] at hy1
        rw [cD_mk] at hy2
        simp -implicitDefEqProofs (disch := omega) only [seval, go_sem, e1, e6, e7, e8, e9, e10, e13, e18, e19, e20, e21, e22, hd20, hd21, hy1, hy2]
        refine drW_at (idQ 24 0) followsN (by kernel_rfl) ?_
        simp -implicitDefEqProofs (disch := omega) only [seval, go_sem, e1, e6, e7, e8, e9, e10, e13, e18, e19, e20, e21, e22, hd20, hd21, hy1, hy2]
        exact ⟨n3 - 1, by omega, j + 1, by omega, rfl, e1, e6, e7, e8, e9, e10, e13, e18, e19, e20, e21, rfl⟩
      · by_cases h0 : FF = []
        · have hos : owL c (q + 1) = owL c q := by rw [hosucc, if_neg (fun h => h (hne.2 h0)), List.append_nil]
          have h00 : FF.length = 0 := by rw [h0]; rfl
          simp -implicitDefEqProofs (disch := omega) only [seval, go_sem, e1, e6, e7, e8, e9, e10, e13, e18, e19, e20, e21, e22, hd20, hd21]
          exact ⟨n2 - 1, by omega, q + 1, k18, by omega, e1, e6, e7, e8, e9, e10, e13, by rw [hos]; exact e18, rfl, hk18, b1, b2, hk7⟩
        · have hos : owL c (q + 1) = owL c q ++ [(q : Int)] := by rw [hosucc, if_pos (fun h => h0 (hne.1 h))]
          have h00 : 0 < FF.length := List.length_pos_iff.2 h0
          simp -implicitDefEqProofs (disch := omega) only [seval, go_sem, e1, e6, e7, e8, e9, e10, e13, e18, e19, e20, e21, e22, hd20, hd21, hk18, hdo]
          refine ⟨n2 - 1, by omega, q + 1, S8.n, by omega, e1, e6, e7, e8, e9, e10, e13, ?_, rfl, push_self _ _, by have := hk7.1; omega, Nat.lt_succ_self _, (hk7.set b1 _).push' _⟩
          rw [hos, dI_app]; rfl
    · have hq5 : q = 5 := by omega
      subst hq5
      simp -implicitDefEqProofs (disch := omega) only [seval, go_sem, e1, e6, e7, e8, e9, e10, e13, e18, e19]
      refine c_OwnersB (os := owL c 5) h7 (owL_sorted c 5) (fun o' => by rw [hlf]; exact owL_mem hco o') (owL_bd (Nat.le_refl _)) (by omega) ?_
      simp -implicitDefEqProofs (disch := omega) only [seval, go_sem, e1, e6, e7, e8, e9, e10, e13, e18, e19, hdo]
      refine loW_inv (fun n3 T S' => ∃ j : Nat, n3 + j = (owL c 5).length ∧ S' = S7 ∧ T 1 = .sl gl 4 (actL l) ∧ T 6 = .ptr s 0 ∧ T 7 = .ptr S2a.n 0 ∧ T 8 = .ptr b 0 ∧ T 9 = .sl (.own k9) 3 (dOw c) ∧ T 10 = .sl (.own k) 4 (dR made) ∧ T 13 = .lit (.int .i64 (i : Int)) ∧ T 18 = .sl (.own k18) 1 (dI (owL c 5)) ∧ T 23 = .sl .none 1 (dI (owL c 5)) ∧ T 24 = .lit (.int .i64 (j : Int))) (owL c 5).length ?_ ?_
      · exact ⟨0, rfl, rfl, e1, e6, e7, e8, e9, e10, e13, e18, rfl, rfl⟩
      clear e1 e6 e7 e8 e9 e10 e13 e18 e19
      rintro n3 T S8 ⟨j, hj, rfl, e1, e6, e7, e8, e9, e10, e13, e18, e23, e24⟩
      by_cases hcj : j < (owL c 5).length
      · simp -implicitDefEqProofs (disch := omega) only [seval, go_sem, e1, e6, e7, e8, e9, e10, e13, e18, e23, e24, hdo]
        refine drW_at (idQ 9 0) followsN (by kernel_rfl) ?_
        simp -implicitDefEqProofs (disch := omega) only [seval, go_sem, e1, e6, e7, e8, e9, e10, e13, e18, e23, e24, hdo]
        exact ⟨n3 - 1, by omega, j + 1, by omega, rfl, e1, e6, e7, e8, e9, e10, e13, e18, e23, rfl⟩
      · simp -implicitDefEqProofs (disch := omega) only [seval, go_sem, e1, e6, e7, e8, e9, e10, e13, e18, e23, e24, hdo]
        exact ⟨n - 1, by omega, i + 1, M, I4, c, lf, F4, k9, by omega, hiv, htc, g7, h7, hlf, hcl, hco, hsep, hsepF, hm77, (hk7.2 _ a3).trans hk9, a1, a2, by have := hk7.1; omega, by have := hk7.1; omega, e1, e6, e7, e8, e9, e10, rfl, by have := hk7.1; omega, hkp.trans hk7⟩
end Go.Proofs.YtoldjfappfbfbaaGreatDoor
