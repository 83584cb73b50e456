/-
  Lemmas of the claim, part 6: Ub.
-/
import Derived.Test.YtoldjfappfbfbaaGreatDoorMee
set_option linter.unusedVariables false
set_option linter.unusedSimpArgs false
namespace Go.Proofs.YtoldjfappfbfbaaGreatDoor
open Go.RowKit TL
set_option maxRecDepth 8000 in
set_option maxHeartbeats 8000000 in
theorem c_ClaimSure {x : PlanM} (hb : PlanB x) {ms : List ActM} (hms : ms.length ≤ LIM) {gm : Tag} {S : TS} {K : TV → TS → Prop} (hK : K (.lit (.bool true)) S) : TCall env 8 [planV x, .sl gm 4 (actL ms)] S K := by
  refine TCall.toPure (r := .lit (.bool true)) ?_ hK
  have hda := actL_len x.acts
  have hdm := actL_len ms
  have hl' : x.acts.length ≤ 140737488355328 := hb.al
  have hl2 : ms.length ≤ 140737488355328 := hms
  rw [planV_mk]
  refine TCall.w 183 [.tmp 4] Tryz.func8 rfl rfl rfl rfl (by kernel_rfl) rfl ?_
  simp -implicitDefEqProofs (disch := omega) only [seval, go_sem]
  refine c_touched ?_
  have ho : (S.push (.cells 25 [.sl .none 1 (treeL x.trees), .sl .none 4 (actL x.acts)])).objs S.n = .cells 25 [.sl .none 1 (treeL x.trees), .sl .none 4 (actL x.acts)] := push_self _ _
  have hk : Keep S (S.push (.cells 25 [.sl .none 1 (treeL x.trees), .sl .none 4 (actL x.acts)])) := Keep.push _ _
  have hn : S.n < (S.push (.cells 25 [.sl .none 1 (treeL x.trees), .sl .none 4 (actL x.acts)])).n := Nat.lt_succ_self _
  generalize S.push _ = S1 at *
  simp -implicitDefEqProofs (disch := omega) only [seval, go_sem, ho, hda]
  refine c_small16 hb ?_
  cases hs : smallB x with
  | false =>
    simp -implicitDefEqProofs (disch := omega) only [seval, go_sem, ho, hda]
    refine c_touched ?_
    simp -implicitDefEqProofs (disch := omega) only [seval, go_sem]
    exact ⟨.lit _, hk⟩
  | true =>
    by_cases h20 : 20 < x.acts.length
    · simp -implicitDefEqProofs (disch := omega) only [seval, go_sem, ho, hda]
      refine c_touched ?_
      simp -implicitDefEqProofs (disch := omega) only [seval, go_sem]
      exact ⟨.lit _, hk⟩
    by_cases hm20 : 20 < ms.length
    · simp -implicitDefEqProofs (disch := omega) only [seval, go_sem, ho, hda, hdm]
      refine c_touched ?_
      simp -implicitDefEqProofs (disch := omega) only [seval, go_sem]
      exact ⟨.lit _, hk⟩
    have hps := small_of hs
    simp -implicitDefEqProofs (disch := omega) only [seval, go_sem, ho, hda, hdm]
    refine c_Begin (Nat.le_trans hps.tl (by decide)) hps.ml hps.dl fun ars har => ?_
    rw [worldV_mk]
    simp -implicitDefEqProofs (disch := omega) only [seval, go_sem, ho, hda]
    have hoW : (S1.push (.cells 35 [.sl .none 1 (gD fW), .sl .none 1 (gD kW), .sl .none 1 (dBB ars), .sl .none 1 (dT names3), .sl .none 1 (dT [path0])])).objs S1.n = .cells 35 [.sl .none 1 (gD fW), .sl .none 1 (gD kW), .sl .none 1 (dBB ars), .sl .none 1 (dT names3), .sl .none 1 (dT [path0])] := push_self _ _
    have hoP : (S1.push (.cells 35 [.sl .none 1 (gD fW), .sl .none 1 (gD kW), .sl .none 1 (dBB ars), .sl .none 1 (dT names3), .sl .none 1 (dT [path0])])).objs S.n = .cells 25 [.sl .none 1 (treeL x.trees), .sl .none 4 (actL x.acts)] := psh_old0 ho hn
    have hkW : Keep S (S1.push (.cells 35 [.sl .none 1 (gD fW), .sl .none 1 (gD kW), .sl .none 1 (dBB ars), .sl .none 1 (dT names3), .sl .none 1 (dT [path0])])) := hk.push' _
    have hnW : S1.n < (S1.push (.cells 35 [.sl .none 1 (gD fW), .sl .none 1 (gD kW), .sl .none 1 (dBB ars), .sl .none 1 (dT names3), .sl .none 1 (dT [path0])])).n := Nat.lt_succ_self _
    generalize S1.push (.cells 35 [.sl .none 1 (gD fW), .sl .none 1 (gD kW), .sl .none 1 (dBB ars), .sl .none 1 (dT names3), .sl .none 1 (dT [path0])]) = S1b at *
    refine c_Store_new fun S2a s I h1a hf1a hk1a => ?_
    simp -implicitDefEqProofs (disch := omega) only [seval, go_sem, ho, hda]
    refine c_Book_new fun S2 b F h5 hF5 hk5 => ?_
    have h1 := StG.keep h1a hk5
    have hk1 := hk1a.trans hk5
    have hn2a := hk1a.1
    have hf1 : ∀ id, stF s I id → S1b.n ≤ id ∧ id < S2a.n := fun id h => ⟨hf1a id h, h1a.flt id h⟩
    clear h1a hf1a
    have hoW2 := (hk1.2 _ hnW).trans hoW
    have hoP2 := (hk1.2 _ (Nat.lt_trans hn hnW)).trans hoP
    have hn2 := hk1.1
    have hkS := hkW.trans hk1
    simp -implicitDefEqProofs (disch := omega) only [seval, go_sem, ho, hda]
    refine loW.asRow 8 4 rfl (.inl rfl) ?_
    refine loW_inv (fun n T S' => ∃ (i k : Nat) (made : List RowM), n + i = x.acts.length ∧ made.length = i ∧ MadeOk made ∧ T 1 = .sl gm 4 (actL ms) ∧ T 2 = .ptr S.n 0 ∧ T 5 = .ptr S1.n 0 ∧ T 6 = .ptr s 0 ∧ T 7 = .ptr b 0 ∧ T 8 = .sl (.own k) 4 (dR made) ∧ T 9 = .lit (.int .i64 (i : Int)) ∧ S'.objs k = .lin ∧ S2.n ≤ k ∧ k < S'.n ∧ Keep S2 S') x.acts.length ?_ ?_
    · exact ⟨0, S2.n, [], rfl, rfl, MadeOk.nil, rfl, rfl, rfl, rfl, rfl, rfl, rfl, push_self _ _, Nat.le_refl _, Nat.lt_succ_self _, Keep.push _ _⟩
    rintro n T S3 ⟨i, k, made, hi, hmi, hmo, e1, e2, e5, e6, e7, e8, e9, hok, hk2, hkn, hk3⟩
    have hn3 := hk3.1
    have hoW3 := (hk3.2 _ (by omega)).trans hoW2
    have hoP3 := (hk3.2 _ (by omega)).trans hoP2
    have hdr := dR_len made
    by_cases hc : i < x.acts.length
    · have hx := actL_get hc
      generalize x.acts.getD i default = y at *
      rw [actD_mk] at hx
      simp -implicitDefEqProofs (disch := omega) only [seval, go_sem, e1, e2, e5, e6, e7, e8, e9, hoP3, hoW3, hda, hx]
      have hy4 : (y.more % 4#8).toNat < 4 := by rw [BitVec.toNat_umod]; exact Nat.mod_lt _ (by decide)
      have hgr : rowG ars made ⟨y.do_, y.a, y.b, y.more % 4#8⟩ = rowM ars made y.a.toNat y.b.toNat ((y.more % 4#8).toNat % 4) := rowG_ok hmo.ip (by show (y.more % 4#8).toNat < 250; omega)
      have hsn := hmo.snoc har.b y.a.toNat y.b.toNat (n := (y.more % 4#8).toNat % 4) (by omega)
      rw [← hgr] at hsn
      refine c_row16 (x := ⟨y.do_, y.a, y.b, y.more % 4#8⟩) har hmo.rb (by omega) ?_
      generalize rowG ars made ⟨y.do_, y.a, y.b, y.more % 4#8⟩ = r at *
      have hok' : ∀ o, (S3.push o).objs k = .lin := fun o => psh_old0 hok hkn
      rw [rowN_mk]
      simp -implicitDefEqProofs (disch := omega) only [seval, go_sem, e1, e2, e5, e6, e7, e8, e9, hok', hdr]
      refine ⟨rfl, n - 1, by omega, i + 1, S3.n + 1, made ++ [r], by omega, by simp [hmi], hsn, e1, e2, e5, e6, e7, ?_, rfl, push_self (TS.push _ _) _, by omega, Nat.lt_succ_self _, ((hk3.set hk2 _).push' _).push' _⟩
      rw [dR_app]; rfl
    · have hil : i = x.acts.length := by omega
      have g3 : StOk S3 s I .new := StG.keep h1 hk3
      have b3 := h5.keep hk3
      have hkA : Keep S S3 := hkS.trans hk3
      by_cases hm0 : made.length = 0
      · simp -implicitDefEqProofs (disch := omega) only [seval, go_sem, e1, e2, e5, e6, e7, e8, e9, hoP3, hoW3, hda, hdr]
        exact ⟨.lit _, hkA⟩
      have htd : ((made.length + 1 : Nat) : Int).tdiv 2 = (((made.length + 1) / 2 : Nat) : Int) := (Int.ofNat_tdiv _ _).symm
      simp -implicitDefEqProofs (disch := omega) only [seval, go_sem, e1, e2, e5, e6, e7, e8, e9, hoP3, hoW3, hda, hdr, htd]
      have hh1 : 1 ≤ (made.length + 1) / 2 := by omega
      have hh2 : (made.length + 1) / 2 ≤ 20 := by omega
      generalize (made.length + 1) / 2 = h at *
      have htk : List.take h (dR made) = dR (made.take h) := by rw [dR, dR, List.map_take]
      have hmt := hmo.take h
      have hlt : (made.take h).length ≤ 20 := by rw [List.length_take]; omega
      obtain ⟨p2, pL, pr, pv, pst⟩ := hmt.newPut (by omega)
      have hiv0 := Inv.put Inv.new hmt.rb
      have hp0 : hasP (putM .new (made.take h)).1.L (made.getD 0 default).path = true := by
        rw [pL]
        refine (hmt.onNil (by omega)).2 _ (List.mem_map.2 ⟨made.getD 0 default, ?_, rfl⟩)
        have hl0 : 0 < (made.take h).length := by rw [List.length_take]; omega
        have := getD_mem (d := default) hl0
        rw [List.getD_eq_getElem?_getD, List.getElem?_take, if_pos (by omega), ← List.getD_eq_getElem?_getD] at this
        exact this
      rw [htk]
      refine c_Put g3 .nil hmt.rb (.inl rfl) (by omega) fun S4 I4 g4 t4 => ?_
      rw [p2]
      generalize (putM .new (made.take h)).1 = M0 at *
      have hx0 := dR_get (L := made) (i := 0) (by omega)
      generalize hpp : (made.getD 0 default).path = p at *
      rw [rowD_mk, hpp] at hx0
      have b4 := b3.frm t4.fr (fun id hid hf => by
        have := hF5 id hid; have := (hf1 id hf).2; omega)
      have hsep4 : ∀ id, stF s I4 id → S1b.n ≤ id ∧ ¬ F id := fun id h => by
        rcases t4.sub id h with h | h
        · exact ⟨(hf1 id h).1, fun hf => by have := hF5 id hf; have := (hf1 id h).2; omega⟩
        · have := b3.flt id
          exact ⟨by omega, fun hf => by have := b3.flt id hf; omega⟩
      have hkB : Keep S S4 := ⟨Nat.le_trans hkA.1 t4.fr.n, fun id hid => by
        rw [t4.fr.o id (Nat.lt_of_lt_of_le hid hkA.1) (fun hf => by have := (hf1 id hf).1; have := hkW.1; omega), hkA.2 id hid]⟩
      have hmu := hiv0.mu
      simp -implicitDefEqProofs (disch := omega) only [seval, go_sem, e1, e2, e5, e6, e7, e8, e9, hoP3, hoW3, hda, hdr, hx0]
      refine c_Closure g4 (by omega) (Nat.le_trans (hiv0.reach _) (by decide)) hiv0.pb6 ?_
      have hwl := hiv0.reach [p]
      have hdw := dT_len (reachL M0.L [p])
      have hwb : ∀ q ∈ reachL M0.L [p], q.length ≤ 100000 := fun q hq => hiv0.pb q ((hasP_iff _ _).1 (((reachL_ok M0.L [p]).2 q).1 hq).has)
      generalize hwas : reachL M0.L [p] = was at *
      simp -implicitDefEqProofs (disch := omega) only [seval, go_sem, e1, e2, e5, e6, e7, e8, e9]
      refine loW_inv (fun n T S' => ∃ (j : Nat) (l : Int → List Cl) (F' : Nat → Prop), n + j = was.length ∧ BkS S' b l F' ∧ l 9 = (was.take j).map (fun q => (q, stampT M0.tc q)) ∧ StOk S' s I4 M0 ∧ (∀ id, F' id → S.n ≤ id) ∧ (∀ id, stF s I4 id → S1b.n ≤ id ∧ ¬ F' id) ∧ T 1 = .sl gm 4 (actL ms) ∧ T 6 = .ptr s 0 ∧ T 7 = .ptr b 0 ∧ T 8 = .sl (.own k) 4 (dR made) ∧ T 11 = .lit (.string (st p)) ∧ T 12 = .sl .none 1 (dT was) ∧ T 13 = .lit (.int .i64 (j : Int)) ∧ S1b.n ≤ S'.n ∧ Keep S S') was.length ?_ ?_
      · exact ⟨0, _, F, rfl, b4, rfl, g4, fun id hf => by have := hF5 id hf; have := hkW.1; omega, hsep4, e1, e6, e7, e8, rfl, rfl, rfl, by have := t4.fr.n; omega, hkB⟩
      rintro n T S6 ⟨j, l, F6, hj, h6, hl9, g6, hF6, hsep6, f1, f6, f7, f8, f11, f12, f13, hnn6, hk6⟩
      have hll : (l 9).length ≤ 64 := by rw [hl9, List.length_map, List.length_take]; omega
      by_cases hcj : j < was.length
      · have hx := dT_get hcj
        have htk2 := take_succ_D was [] hcj
        generalize was.getD j [] = q at *
        simp -implicitDefEqProofs (disch := omega) only [seval, go_sem, f1, f6, f7, f8, f11, f12, f13, hdw, hx]
        refine drW_at [(0, 0), (1, 0), (2, 0), (3, 0), (4, 0), (5, 0), (6, 0), (7, 0), (8, 0), (9, 0), (10, 1), (11, 2)] followsN (by kernel_rfl) ?_
        simp -implicitDefEqProofs (disch := omega) only [seval, go_sem, f1, f6, f7, f8, f11, f12, f13, hdw, hx]
        refine c_StampG g6 ?_
        simp -implicitDefEqProofs (disch := omega) only [seval, go_sem, f1, f6, f7, f8, f11, f12, f13, hdw, hx]
        refine c_Note2 h6 (fun S7 F7 l7 h7 hl7 hlo7 fr7 sb7 => ?_) (by omega) (by omega)
        have g7 : StOk S7 s I4 M0 := StG.frm g6 fr7 fun id hid => (hsep6 id hid).2
        have hk7 : Keep S S7 := ⟨Nat.le_trans hk6.1 fr7.n, fun id hid => (fr7.o id (Nat.lt_of_lt_of_le hid hk6.1) (fun hf => by have := hF6 id hf; omega)).trans (hk6.2 id hid)⟩
        simp -implicitDefEqProofs (disch := omega) only [seval, go_sem, f1, f6, f7, f8, f11, f12, f13, hdw, hx]
        refine ⟨n - 1, by omega, j + 1, l7, F7, by omega, h7, ?_, g7, ?_, ?_, f1, f6, f7, f8, f11, f12, rfl, Nat.le_trans hnn6 fr7.n, hk7⟩
        · rw [hl7, hl9, htk2, List.map_append]; rfl
        · intro id hf
          rcases sb7 id hf with h | h
          · exact hF6 id h
          · have := hk6.1; omega
        · intro id hf
          refine ⟨(hsep6 id hf).1, fun hf2 => ?_⟩
          rcases sb7 id hf2 with h | h
          · exact (hsep6 id hf).2 h
          · have := StG.flt g6 id hf; omega
      rw [List.take_of_length_le (by omega)] at hl9
      simp -implicitDefEqProofs (disch := omega) only [seval, go_sem, f1, f6, f7, f8, f11, f12, f13, hdw]
      clear hcj hj
      refine loW_inv (fun n T S' => ∃ (j : Nat) (M : StM) (I' : StI), n + j = ms.length ∧ Inv M ∧ SureI M0 M (1 + j) ∧ StOk S' s I' M ∧ BkS S' b l F6 ∧ (∀ id, stF s I' id → S1b.n ≤ id ∧ ¬ F6 id) ∧ T 1 = .sl gm 4 (actL ms) ∧ T 6 = .ptr s 0 ∧ T 7 = .ptr b 0 ∧ T 8 = .sl (.own k) 4 (dR made) ∧ T 11 = .lit (.string (st p)) ∧ T 12 = .sl .none 1 (dT was) ∧ T 14 = .lit (.int .i64 (j : Int)) ∧ S1b.n ≤ S'.n ∧ Keep S S') ms.length ?_ ?_
      · exact ⟨0, M0, I4, rfl, hiv0, SureI.refl pv, g6, h6, hsep6, f1, f6, f7, f8, f11, f12, rfl, hnn6, hk6⟩
      clear f1 f6 f7 f8 f11 f12 f13 hk6 hnn6 hsep6 g6 hF6 h6
      rintro n T S6 ⟨j, M, I6, hj, hiv, hsu, g6, h6, hsep6, f1, f6, f7, f8, f11, f12, f14, hnn6, hk6⟩
      by_cases hcj : j < ms.length
      rotate_left
      · simp -implicitDefEqProofs (disch := omega) only [seval, go_sem, f1, f6, f7, f8, f11, f12, f14, hdm]
        exact ⟨.lit _, hk6⟩
      have hx := actL_get hcj
      generalize ms.getD j default = y at *
      rw [actD_mk] at hx
      have hlt2 : y.a.toNat % made.length < made.length := Nat.mod_lt _ (by omega)
      have htm : ((y.a.toNat : Int)).tmod (made.length : Int) = ((y.a.toNat % made.length : Nat) : Int) := (Int.ofNat_tmod _ _).symm
      have hx2 := dR_get hlt2
      generalize made.getD (y.a.toNat % made.length) default = r at *
      rw [rowD_mk] at hx2
      have hd4 : (y.do_ % 4#8).toNat < 4 := by rw [BitVec.toNat_umod]; exact Nat.mod_lt _ (by decide)
      by_cases q0 : (y.do_ % 4#8).toNat = 0
      · simp -implicitDefEqProofs (disch := omega) only [seval, go_sem, f1, f6, f7, f8, f11, f12, f14, hdm, hx, hdr, htm, hx2]
        refine c_Put g6 hiv.nd hmo.rb (.inl rfl) (by omega) fun S7 I7 g7 t7 => ?_
        have hiv7 := hiv.put hmo.rb
        have hsu7 := hsu.step (by omega) (put_chg M made)
        generalize (putM M made).1 = M7 at *
        have h7 := h6.frm t7.fr (fun id hf hs => (hsep6 id hs).2 hf)
        have hsep7 : ∀ id, stF s I7 id → S1b.n ≤ id ∧ ¬ F6 id := fun id hf => by
          rcases t7.sub id hf with h | h
          · exact hsep6 id h
          · have := hkW.1
            have := hk6.1
            exact ⟨by omega, fun hf2 => by have := h6.flt id hf2; omega⟩
        have hk7 : Keep S S7 := ⟨Nat.le_trans hk6.1 t7.fr.n, fun id hid => by
          rw [t7.fr.o id (Nat.lt_of_lt_of_le hid hk6.1) (fun hf => by have := (hsep6 id hf).1; have := hkW.1; omega), hk6.2 id hid]⟩
        have hmu7 := hiv7.mu
        simp -implicitDefEqProofs (disch := omega) only [seval, go_sem, f1, f6, f7, f8, f11, f12, f14, hdm, hdr]
        refine c_Closure g7 (by omega) (Nat.le_trans (hiv7.reach _) (by decide)) hiv7.pb6 ?_
        have hwl7 := hiv7.reach [p]
        have hdn := dT_len (reachL M7.L [p])
        have hfr : ((l 9).all fun z => decide (stampT M7.tc z.1 = z.2)) = true → reachL M7.L [p] = was := fun h => by
          rw [← hwas]
          refine hsu7.same hiv0.wf pst hp0 fun q hq => ?_
          rw [hwas] at hq
          rw [hl9, List.all_map, List.all_eq_true] at h
          have := h q hq
          exact of_decide_eq_true this
        generalize hnow : reachL M7.L [p] = now at *
        simp -implicitDefEqProofs (disch := omega) only [seval, go_sem, f1, f6, f7, f8, f11, f12, f14, hdm, hdr, hdn, hdw]
        refine loW_inv (fun n2 T S' => ∃ (k2 : Nat) (bl : Bool), n2 + k2 = now.length ∧ (bl = true → now.length = was.length) ∧ (now = was → bl = true) ∧ S' = S7 ∧ T 1 = .sl gm 4 (actL ms) ∧ T 6 = .ptr s 0 ∧ T 7 = .ptr b 0 ∧ T 8 = .sl (.own k) 4 (dR made) ∧ T 11 = .lit (.string (st p)) ∧ T 12 = .sl .none 1 (dT was) ∧ T 14 = .lit (.int .i64 (j : Int)) ∧ T 16 = .sl .none 1 (dT now) ∧ T 17 = .lit (.bool bl) ∧ T 18 = .lit (.int .i64 (k2 : Int))) now.length ?_ ?_
        · exact ⟨0, _, rfl, fun h => by have := of_decide_eq_true h; omega, fun h => by rw [h]; exact decide_eq_true rfl, rfl, f1, f6, f7, f8, f11, f12, f14, rfl, rfl, rfl⟩
        clear f1 f6 f7 f8 f11 f12 f14
        rintro n2 T S9 ⟨k2, bl, hk2', hbl1, hbl2, rfl, f1, f6, f7, f8, f11, f12, f14, f16, f17, f18⟩
        cases bl with
        | true =>
          have hlen := hbl1 rfl
          by_cases hck : k2 < now.length
          · have hy1 := dT_get hck
            have hy2 := dT_get (xs := was) (i := k2) (by omega)
            simp -implicitDefEqProofs (disch := omega) only [seval, go_sem, f1, f6, f7, f8, f11, f12, f14, f16, f17, f18, hdn, hdw, hy1, hy2]
            refine drW_at (idQ 10 0) followsN (by kernel_rfl) ?_
            simp -implicitDefEqProofs (disch := omega) only [seval, go_sem, f1, f6, f7, f8, f11, f12, f14, f16, f17, f18, hdn, hdw, hy1, hy2]
            exact ⟨n2 - 1, by omega, k2 + 1, _, by omega, fun h => by rw [h]; exact decide_eq_true rfl, rfl, f1, f6, f7, f8, f11, f12, f14, f16, rfl, rfl⟩
          · simp -implicitDefEqProofs (disch := omega) only [seval, go_sem, f1, f6, f7, f8, f11, f12, f14, f16, f17, f18, hdn, hdw]
            refine c_FreshB h7 g7 ?_ (by rw [hl9, List.length_map]; omega)
            cases hfv : ((l 9).all fun z => decide (stampT M7.tc z.1 = z.2)) with
            | true =>
              simp -implicitDefEqProofs (disch := omega) only [seval, go_sem, f1, f6, f7, f8, f11, f12, f14, f16, f17, f18, hdn, hdw]
              exact ⟨n - 1, by omega, j + 1, M7, I7, by omega, hiv7, by have := hsu7; rwa [Nat.add_assoc] at this, g7, h7, hsep7, f1, f6, f7, f8, f11, f12, rfl, Nat.le_trans hnn6 t7.fr.n, hk7⟩
            | false =>
              simp -implicitDefEqProofs (disch := omega) only [seval, go_sem, f1, f6, f7, f8, f11, f12, f14, f16, f17, f18, hdn, hdw]
              exact ⟨n - 1, by omega, j + 1, M7, I7, by omega, hiv7, by have := hsu7; rwa [Nat.add_assoc] at this, g7, h7, hsep7, f1, f6, f7, f8, f11, f12, rfl, Nat.le_trans hnn6 t7.fr.n, hk7⟩
        | false =>
          have hfv : ((l 9).all fun z => decide (stampT M7.tc z.1 = z.2)) = false := by
            cases h : ((l 9).all fun z => decide (stampT M7.tc z.1 = z.2)) with
            | false => rfl
            | true => exact (hbl2 (hfr h)).symm
          by_cases hck : k2 < now.length
          · simp -implicitDefEqProofs (disch := omega) only [seval, go_sem, f1, f6, f7, f8, f11, f12, f14, f16, f17, f18, hdn, hdw]
            refine c_FreshB h7 g7 ?_ (by rw [hl9, List.length_map]; omega)
            rw [hfv]
            simp -implicitDefEqProofs (disch := omega) only [seval, go_sem, f1, f6, f7, f8, f11, f12, f14, f16, f17, f18, hdn, hdw]
            exact ⟨n - 1, by omega, j + 1, M7, I7, by omega, hiv7, by have := hsu7; rwa [Nat.add_assoc] at this, g7, h7, hsep7, f1, f6, f7, f8, f11, f12, rfl, Nat.le_trans hnn6 t7.fr.n, hk7⟩
          · simp -implicitDefEqProofs (disch := omega) only [seval, go_sem, f1, f6, f7, f8, f11, f12, f14, f16, f17, f18, hdn, hdw]
            refine c_FreshB h7 g7 ?_ (by rw [hl9, List.length_map]; omega)
            rw [hfv]
            simp -implicitDefEqProofs (disch := omega) only [seval, go_sem, f1, f6, f7, f8, f11, f12, f14, f16, f17, f18, hdn, hdw]
            exact ⟨n - 1, by omega, j + 1, M7, I7, by omega, hiv7, by have := hsu7; rwa [Nat.add_assoc] at this, g7, h7, hsep7, f1, f6, f7, f8, f11, f12, rfl, Nat.le_trans hnn6 t7.fr.n, hk7⟩
      by_cases q1 : (y.do_ % 4#8).toNat = 1
      · simp -implicitDefEqProofs (disch := omega) only [seval, go_sem, f1, f6, f7, f8, f11, f12, f14, hdm, hx, hdr, htm, hx2]
        refine c_Root g6 hiv.wf.rs fun S7 g7 t7 => ?_
        have hiv7 := hiv.root r.path
        have hsu7 := hsu.step (by omega) (root_chg M r.path)
        generalize (rootM M r.path).1 = M7 at *
        have h7 := h6.frm t7.fr (fun id hf hs => (hsep6 id hs).2 hf)
        have hsep7 : ∀ id, stF s I6 id → S1b.n ≤ id ∧ ¬ F6 id := fun id hf => by
          rcases t7.sub id hf with h | h
          · exact hsep6 id h
          · have := hkW.1
            have := hk6.1
            exact ⟨by omega, fun hf2 => by have := h6.flt id hf2; omega⟩
        have hk7 : Keep S S7 := ⟨Nat.le_trans hk6.1 t7.fr.n, fun id hid => by
          rw [t7.fr.o id (Nat.lt_of_lt_of_le hid hk6.1) (fun hf => by have := (hsep6 id hf).1; have := hkW.1; omega), hk6.2 id hid]⟩
        have hmu7 := hiv7.mu
        simp -implicitDefEqProofs (disch := omega) only [seval, go_sem, f1, f6, f7, f8, f11, f12, f14, hdm, hdr]
        refine c_Closure g7 (by omega) (Nat.le_trans (hiv7.reach _) (by decide)) hiv7.pb6 ?_
        have hwl7 := hiv7.reach [p]
        have hdn := dT_len (reachL M7.L [p])
        have hfr : ((l 9).all fun z => decide (stampT M7.tc z.1 = z.2)) = true → reachL M7.L [p] = was := fun h => by
          rw [← hwas]
          refine hsu7.same hiv0.wf pst hp0 fun q hq => ?_
          rw [hwas] at hq
          rw [hl9, List.all_map, List.all_eq_true] at h
          have := h q hq
          exact of_decide_eq_true this
        generalize hnow : reachL M7.L [p] = now at *
        simp -implicitDefEqProofs (disch := omega) only [seval, go_sem, f1, f6, f7, f8, f11, f12, f14, hdm, hdr, hdn, hdw]
        refine loW_inv (fun n2 T S' => ∃ (k2 : Nat) (bl : Bool), n2 + k2 = now.length ∧ (bl = true → now.length = was.length) ∧ (now = was → bl = true) ∧ S' = S7 ∧ T 1 = .sl gm 4 (actL ms) ∧ T 6 = .ptr s 0 ∧ T 7 = .ptr b 0 ∧ T 8 = .sl (.own k) 4 (dR made) ∧ T 11 = .lit (.string (st p)) ∧ T 12 = .sl .none 1 (dT was) ∧ T 14 = .lit (.int .i64 (j : Int)) ∧ T 16 = .sl .none 1 (dT now) ∧ T 17 = .lit (.bool bl) ∧ T 18 = .lit (.int .i64 (k2 : Int))) now.length ?_ ?_
        · exact ⟨0, _, rfl, fun h => by have := of_decide_eq_true h; omega, fun h => by rw [h]; exact decide_eq_true rfl, rfl, f1, f6, f7, f8, f11, f12, f14, rfl, rfl, rfl⟩
        clear f1 f6 f7 f8 f11 f12 f14
        rintro n2 T S9 ⟨k2, bl, hk2', hbl1, hbl2, rfl, f1, f6, f7, f8, f11, f12, f14, f16, f17, f18⟩
        cases bl with
        | true =>
          have hlen := hbl1 rfl
          by_cases hck : k2 < now.length
          · have hy1 := dT_get hck
            have hy2 := dT_get (xs := was) (i := k2) (by omega)
            simp -implicitDefEqProofs (disch := omega) only [seval, go_sem, f1, f6, f7, f8, f11, f12, f14, f16, f17, f18, hdn, hdw, hy1, hy2]
            refine drW_at (idQ 10 0) followsN (by kernel_rfl) ?_
            simp -implicitDefEqProofs (disch := omega) only [seval, go_sem, f1, f6, f7, f8, f11, f12, f14, f16, f17, f18, hdn, hdw, hy1, hy2]
            exact ⟨n2 - 1, by omega, k2 + 1, _, by omega, fun h => by rw [h]; exact decide_eq_true rfl, rfl, f1, f6, f7, f8, f11, f12, f14, f16, rfl, rfl⟩
          · simp -implicitDefEqProofs (disch := omega) only [seval, go_sem, f1, f6, f7, f8, f11, f12, f14, f16, f17, f18, hdn, hdw]
            refine c_FreshB h7 g7 ?_ (by rw [hl9, List.length_map]; omega)
            cases hfv : ((l 9).all fun z => decide (stampT M7.tc z.1 = z.2)) with
            | true =>
              simp -implicitDefEqProofs (disch := omega) only [seval, go_sem, f1, f6, f7, f8, f11, f12, f14, f16, f17, f18, hdn, hdw]
              exact ⟨n - 1, by omega, j + 1, M7, I6, by omega, hiv7, by have := hsu7; rwa [Nat.add_assoc] at this, g7, h7, hsep7, f1, f6, f7, f8, f11, f12, rfl, Nat.le_trans hnn6 t7.fr.n, hk7⟩
            | false =>
              simp -implicitDefEqProofs (disch := omega) only [seval, go_sem, f1, f6, f7, f8, f11, f12, f14, f16, f17, f18, hdn, hdw]
              exact ⟨n - 1, by omega, j + 1, M7, I6, by omega, hiv7, by have := hsu7; rwa [Nat.add_assoc] at this, g7, h7, hsep7, f1, f6, f7, f8, f11, f12, rfl, Nat.le_trans hnn6 t7.fr.n, hk7⟩
        | false =>
          have hfv : ((l 9).all fun z => decide (stampT M7.tc z.1 = z.2)) = false := by
            cases h : ((l 9).all fun z => decide (stampT M7.tc z.1 = z.2)) with
            | false => rfl
            | true => exact (hbl2 (hfr h)).symm
          by_cases hck : k2 < now.length
          · simp -implicitDefEqProofs (disch := omega) only [seval, go_sem, f1, f6, f7, f8, f11, f12, f14, f16, f17, f18, hdn, hdw]
            refine c_FreshB h7 g7 ?_ (by rw [hl9, List.length_map]; omega)
            rw [hfv]
            simp -implicitDefEqProofs (disch := omega) only [seval, go_sem, f1, f6, f7, f8, f11, f12, f14, f16, f17, f18, hdn, hdw]
            exact ⟨n - 1, by omega, j + 1, M7, I6, by omega, hiv7, by have := hsu7; rwa [Nat.add_assoc] at this, g7, h7, hsep7, f1, f6, f7, f8, f11, f12, rfl, Nat.le_trans hnn6 t7.fr.n, hk7⟩
          · simp -implicitDefEqProofs (disch := omega) only [seval, go_sem, f1, f6, f7, f8, f11, f12, f14, f16, f17, f18, hdn, hdw]
            refine c_FreshB h7 g7 ?_ (by rw [hl9, List.length_map]; omega)
            rw [hfv]
            simp -implicitDefEqProofs (disch := omega) only [seval, go_sem, f1, f6, f7, f8, f11, f12, f14, f16, f17, f18, hdn, hdw]
            exact ⟨n - 1, by omega, j + 1, M7, I6, by omega, hiv7, by have := hsu7; rwa [Nat.add_assoc] at this, g7, h7, hsep7, f1, f6, f7, f8, f11, f12, rfl, Nat.le_trans hnn6 t7.fr.n, hk7⟩
      by_cases q2 : (y.do_ % 4#8).toNat = 2
      · simp -implicitDefEqProofs (disch := omega) only [seval, go_sem, f1, f6, f7, f8, f11, f12, f14, hdm, hx, hdr, htm, hx2]
        refine c_Delete g6 hiv.nd hiv.rb fun S7 I7 g7 t7 => ?_
        have hiv7 := hiv.delete r.path
        have hsu7 := hsu.step (by omega) (delete_chg M r.path)
        generalize (deleteM M r.path).1 = M7 at *
        have h7 := h6.frm t7.fr (fun id hf hs => (hsep6 id hs).2 hf)
        have hsep7 : ∀ id, stF s I7 id → S1b.n ≤ id ∧ ¬ F6 id := fun id hf => by
          rcases t7.sub id hf with h | h
          · exact hsep6 id h
          · have := hkW.1
            have := hk6.1
            exact ⟨by omega, fun hf2 => by have := h6.flt id hf2; omega⟩
        have hk7 : Keep S S7 := ⟨Nat.le_trans hk6.1 t7.fr.n, fun id hid => by
          rw [t7.fr.o id (Nat.lt_of_lt_of_le hid hk6.1) (fun hf => by have := (hsep6 id hf).1; have := hkW.1; omega), hk6.2 id hid]⟩
        have hmu7 := hiv7.mu
        simp -implicitDefEqProofs (disch := omega) only [seval, go_sem, f1, f6, f7, f8, f11, f12, f14, hdm, hdr]
        refine c_Closure g7 (by omega) (Nat.le_trans (hiv7.reach _) (by decide)) hiv7.pb6 ?_
        have hwl7 := hiv7.reach [p]
        have hdn := dT_len (reachL M7.L [p])
        have hfr : ((l 9).all fun z => decide (stampT M7.tc z.1 = z.2)) = true → reachL M7.L [p] = was := fun h => by
          rw [← hwas]
          refine hsu7.same hiv0.wf pst hp0 fun q hq => ?_
          rw [hwas] at hq
          rw [hl9, List.all_map, List.all_eq_true] at h
          have := h q hq
          exact of_decide_eq_true this
        generalize hnow : reachL M7.L [p] = now at *
        simp -implicitDefEqProofs (disch := omega) only [seval, go_sem, f1, f6, f7, f8, f11, f12, f14, hdm, hdr, hdn, hdw]
        refine loW_inv (fun n2 T S' => ∃ (k2 : Nat) (bl : Bool), n2 + k2 = now.length ∧ (bl = true → now.length = was.length) ∧ (now = was → bl = true) ∧ S' = S7 ∧ T 1 = .sl gm 4 (actL ms) ∧ T 6 = .ptr s 0 ∧ T 7 = .ptr b 0 ∧ T 8 = .sl (.own k) 4 (dR made) ∧ T 11 = .lit (.string (st p)) ∧ T 12 = .sl .none 1 (dT was) ∧ T 14 = .lit (.int .i64 (j : Int)) ∧ T 16 = .sl .none 1 (dT now) ∧ T 17 = .lit (.bool bl) ∧ T 18 = .lit (.int .i64 (k2 : Int))) now.length ?_ ?_
        · exact ⟨0, _, rfl, fun h => by have := of_decide_eq_true h; omega, fun h => by rw [h]; exact decide_eq_true rfl, rfl, f1, f6, f7, f8, f11, f12, f14, rfl, rfl, rfl⟩
        clear f1 f6 f7 f8 f11 f12 f14
        rintro n2 T S9 ⟨k2, bl, hk2', hbl1, hbl2, rfl, f1, f6, f7, f8, f11, f12, f14, f16, f17, f18⟩
        cases bl with
        | true =>
          have hlen := hbl1 rfl
          by_cases hck : k2 < now.length
          · have hy1 := dT_get hck
            have hy2 := dT_get (xs := was) (i := k2) (by omega)
            simp -implicitDefEqProofs (disch := omega) only [seval, go_sem, f1, f6, f7, f8, f11, f12, f14, f16, f17, f18, hdn, hdw, hy1, hy2]
            refine drW_at (idQ 10 0) followsN (by kernel_rfl) ?_
            simp -implicitDefEqProofs (disch := omega) only [seval, go_sem, f1, f6, f7, f8, f11, f12, f14, f16, f17, f18, hdn, hdw, hy1, hy2]
            exact ⟨n2 - 1, by omega, k2 + 1, _, by omega, fun h => by rw [h]; exact decide_eq_true rfl, rfl, f1, f6, f7, f8, f11, f12, f14, f16, rfl, rfl⟩
          · simp -implicitDefEqProofs (disch := omega) only [seval, go_sem, f1, f6, f7, f8, f11, f12, f14, f16, f17, f18, hdn, hdw]
            refine c_FreshB h7 g7 ?_ (by rw [hl9, List.length_map]; omega)
            cases hfv : ((l 9).all fun z => decide (stampT M7.tc z.1 = z.2)) with
            | true =>
              simp -implicitDefEqProofs (disch := omega) only [seval, go_sem, f1, f6, f7, f8, f11, f12, f14, f16, f17, f18, hdn, hdw]
              exact ⟨n - 1, by omega, j + 1, M7, I7, by omega, hiv7, by have := hsu7; rwa [Nat.add_assoc] at this, g7, h7, hsep7, f1, f6, f7, f8, f11, f12, rfl, Nat.le_trans hnn6 t7.fr.n, hk7⟩
            | false =>
              simp -implicitDefEqProofs (disch := omega) only [seval, go_sem, f1, f6, f7, f8, f11, f12, f14, f16, f17, f18, hdn, hdw]
              exact ⟨n - 1, by omega, j + 1, M7, I7, by omega, hiv7, by have := hsu7; rwa [Nat.add_assoc] at this, g7, h7, hsep7, f1, f6, f7, f8, f11, f12, rfl, Nat.le_trans hnn6 t7.fr.n, hk7⟩
        | false =>
          have hfv : ((l 9).all fun z => decide (stampT M7.tc z.1 = z.2)) = false := by
            cases h : ((l 9).all fun z => decide (stampT M7.tc z.1 = z.2)) with
            | false => rfl
            | true => exact (hbl2 (hfr h)).symm
          by_cases hck : k2 < now.length
          · simp -implicitDefEqProofs (disch := omega) only [seval, go_sem, f1, f6, f7, f8, f11, f12, f14, f16, f17, f18, hdn, hdw]
            refine c_FreshB h7 g7 ?_ (by rw [hl9, List.length_map]; omega)
            rw [hfv]
            simp -implicitDefEqProofs (disch := omega) only [seval, go_sem, f1, f6, f7, f8, f11, f12, f14, f16, f17, f18, hdn, hdw]
            exact ⟨n - 1, by omega, j + 1, M7, I7, by omega, hiv7, by have := hsu7; rwa [Nat.add_assoc] at this, g7, h7, hsep7, f1, f6, f7, f8, f11, f12, rfl, Nat.le_trans hnn6 t7.fr.n, hk7⟩
          · simp -implicitDefEqProofs (disch := omega) only [seval, go_sem, f1, f6, f7, f8, f11, f12, f14, f16, f17, f18, hdn, hdw]
            refine c_FreshB h7 g7 ?_ (by rw [hl9, List.length_map]; omega)
            rw [hfv]
            simp -implicitDefEqProofs (disch := omega) only [seval, go_sem, f1, f6, f7, f8, f11, f12, f14, f16, f17, f18, hdn, hdw]
            exact ⟨n - 1, by omega, j + 1, M7, I7, by omega, hiv7, by have := hsu7; rwa [Nat.add_assoc] at this, g7, h7, hsep7, f1, f6, f7, f8, f11, f12, rfl, Nat.le_trans hnn6 t7.fr.n, hk7⟩
      simp -implicitDefEqProofs (disch := omega) only [seval, go_sem, f1, f6, f7, f8, f11, f12, f14, hdm, hx, hdr, htm, hx2]
      refine c_Sweep g6 hiv.nd hiv.rb hiv.wf.rs (Nat.le_trans hiv.rl (by decide)) hiv.rpb (Nat.le_trans hiv.ll (by decide)) (by have := hiv.mu; have := hiv.rl; omega) fun S7 I7 g7 t7 => ?_
      have hiv7 := hiv.sweep
      have hsu7 := hsu.step (by omega) (sweep_chg M)
      generalize (sweepM M).1 = M7 at *
      have h7 := h6.frm t7.fr (fun id hf hs => (hsep6 id hs).2 hf)
      have hsep7 : ∀ id, stF s I7 id → S1b.n ≤ id ∧ ¬ F6 id := fun id hf => by
        rcases t7.sub id hf with h | h
        · exact hsep6 id h
        · have := hkW.1
          have := hk6.1
          exact ⟨by omega, fun hf2 => by have := h6.flt id hf2; omega⟩
      have hk7 : Keep S S7 := ⟨Nat.le_trans hk6.1 t7.fr.n, fun id hid => by
        rw [t7.fr.o id (Nat.lt_of_lt_of_le hid hk6.1) (fun hf => by have := (hsep6 id hf).1; have := hkW.1; omega), hk6.2 id hid]⟩
      have hmu7 := hiv7.mu
      simp -implicitDefEqProofs (disch := omega) only [seval, go_sem, f1, f6, f7, f8, f11, f12, f14, hdm, hdr]
      refine c_Closure g7 (by omega) (Nat.le_trans (hiv7.reach _) (by decide)) hiv7.pb6 ?_
      have hwl7 := hiv7.reach [p]
      have hdn := dT_len (reachL M7.L [p])
      have hfr : ((l 9).all fun z => decide (stampT M7.tc z.1 = z.2)) = true → reachL M7.L [p] = was := fun h => by
        rw [← hwas]
        refine hsu7.same hiv0.wf pst hp0 fun q hq => ?_
        rw [hwas] at hq
        rw [hl9, List.all_map, List.all_eq_true] at h
        have := h q hq
        exact of_decide_eq_true this
      generalize hnow : reachL M7.L [p] = now at *
      simp -implicitDefEqProofs (disch := omega) only [seval, go_sem, f1, f6, f7, f8, f11, f12, f14, hdm, hdr, hdn, hdw]
      refine loW_inv (fun n2 T S' => ∃ (k2 : Nat) (bl : Bool), n2 + k2 = now.length ∧ (bl = true → now.length = was.length) ∧ (now = was → bl = true) ∧ S' = S7 ∧ T 1 = .sl gm 4 (actL ms) ∧ T 6 = .ptr s 0 ∧ T 7 = .ptr b 0 ∧ T 8 = .sl (.own k) 4 (dR made) ∧ T 11 = .lit (.string (st p)) ∧ T 12 = .sl .none 1 (dT was) ∧ T 14 = .lit (.int .i64 (j : Int)) ∧ T 16 = .sl .none 1 (dT now) ∧ T 17 = .lit (.bool bl) ∧ T 18 = .lit (.int .i64 (k2 : Int))) now.length ?_ ?_
      · exact ⟨0, _, rfl, fun h => by have := of_decide_eq_true h; omega, fun h => by rw [h]; exact decide_eq_true rfl, rfl, f1, f6, f7, f8, f11, f12, f14, rfl, rfl, rfl⟩
      clear f1 f6 f7 f8 f11 f12 f14
      rintro n2 T S9 ⟨k2, bl, hk2', hbl1, hbl2, rfl, f1, f6, f7, f8, f11, f12, f14, f16, f17, f18⟩
      cases bl with
      | true =>
        have hlen := hbl1 rfl
        by_cases hck : k2 < now.length
        · have hy1 := dT_get hck
          have hy2 := dT_get (xs := was) (i := k2) (by omega)
          simp -implicitDefEqProofs (disch := omega) only [seval, go_sem, f1, f6, f7, f8, f11, f12, f14, f16, f17, f18, hdn, hdw, hy1, hy2]
          refine drW_at (idQ 10 0) followsN (by kernel_rfl) ?_
          simp -implicitDefEqProofs (disch := omega) only [seval, go_sem, f1, f6, f7, f8, f11, f12, f14, f16, f17, f18, hdn, hdw, hy1, hy2]
          exact ⟨n2 - 1, by omega, k2 + 1, _, by omega, fun h => by rw [h]; exact decide_eq_true rfl, rfl, f1, f6, f7, f8, f11, f12, f14, f16, rfl, rfl⟩
        · simp -implicitDefEqProofs (disch := omega) only [seval, go_sem, f1, f6, f7, f8, f11, f12, f14, f16, f17, f18, hdn, hdw]
          refine c_FreshB h7 g7 ?_ (by rw [hl9, List.length_map]; omega)
          cases hfv : ((l 9).all fun z => decide (stampT M7.tc z.1 = z.2)) with
          | true =>
            simp -implicitDefEqProofs (disch := omega) only [seval, go_sem, f1, f6, f7, f8, f11, f12, f14, f16, f17, f18, hdn, hdw]
            exact ⟨n - 1, by omega, j + 1, M7, I7, by omega, hiv7, by have := hsu7; rwa [Nat.add_assoc] at this, g7, h7, hsep7, f1, f6, f7, f8, f11, f12, rfl, Nat.le_trans hnn6 t7.fr.n, hk7⟩
          | false =>
            simp -implicitDefEqProofs (disch := omega) only [seval, go_sem, f1, f6, f7, f8, f11, f12, f14, f16, f17, f18, hdn, hdw]
            exact ⟨n - 1, by omega, j + 1, M7, I7, by omega, hiv7, by have := hsu7; rwa [Nat.add_assoc] at this, g7, h7, hsep7, f1, f6, f7, f8, f11, f12, rfl, Nat.le_trans hnn6 t7.fr.n, hk7⟩
      | false =>
        have hfv : ((l 9).all fun z => decide (stampT M7.tc z.1 = z.2)) = false := by
          cases h : ((l 9).all fun z => decide (stampT M7.tc z.1 = z.2)) with
          | false => rfl
          | true => exact (hbl2 (hfr h)).symm
        by_cases hck : k2 < now.length
        · simp -implicitDefEqProofs (disch := omega) only [seval, go_sem, f1, f6, f7, f8, f11, f12, f14, f16, f17, f18, hdn, hdw]
          refine c_FreshB h7 g7 ?_ (by rw [hl9, List.length_map]; omega)
          rw [hfv]
          simp -implicitDefEqProofs (disch := omega) only [seval, go_sem, f1, f6, f7, f8, f11, f12, f14, f16, f17, f18, hdn, hdw]
          exact ⟨n - 1, by omega, j + 1, M7, I7, by omega, hiv7, by have := hsu7; rwa [Nat.add_assoc] at this, g7, h7, hsep7, f1, f6, f7, f8, f11, f12, rfl, Nat.le_trans hnn6 t7.fr.n, hk7⟩
        · simp -implicitDefEqProofs (disch := omega) only [seval, go_sem, f1, f6, f7, f8, f11, f12, f14, f16, f17, f18, hdn, hdw]
          refine c_FreshB h7 g7 ?_ (by rw [hl9, List.length_map]; omega)
          rw [hfv]
          simp -implicitDefEqProofs (disch := omega) only [seval, go_sem, f1, f6, f7, f8, f11, f12, f14, f16, f17, f18, hdn, hdw]
          exact ⟨n - 1, by omega, j + 1, M7, I7, by omega, hiv7, by have := hsu7; rwa [Nat.add_assoc] at this, g7, h7, hsep7, f1, f6, f7, f8, f11, f12, rfl, Nat.le_trans hnn6 t7.fr.n, hk7⟩
end Go.Proofs.YtoldjfappfbfbaaGreatDoor
