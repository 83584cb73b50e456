/-
  Lemmas of the claim, part 6: Te Sb TlYb TlYc Va Vb Vc Vd Ve Ud Wa Wb Wc.
-/
import Derived.Test.YtoldjfappfbfbaaGreatDoorMke
set_option linter.unusedVariables false
set_option linter.unusedSimpArgs false
namespace Go.Proofs.YtoldjfappfbfbaaGreatDoor
open Go.RowKit TL
set_option maxRecDepth 8000 in
set_option maxHeartbeats 1000000 in
theorem c_small10 {x : PlanM} (hb : PlanB x) {S : TS} {K : TV -> TS -> Prop} (hK : K (.lit (.bool (smallB x))) S) : TCall env 42 [planV x] S K := by
 refine TCall.toPure (r := .lit (.bool (smallB x))) ?_ hK
 have hdt := treeL_len x.trees
 have hda := actL_len x.acts
 have hl' : x.trees.length <= 140737488355328 := hb.tl
 rw [planV_mk]
 refine TCall.w 37 [.tmp 2] Tryz.func42 rfl rfl rfl rfl (by kernel_rfl) rfl ?_
 simp -implicitDefEqProofs (disch := omega) only [seval, go_sem]
 refine loW_inv (fun n T S' => ∃ i : Nat, n + i = x.trees.length /\ T 1 = .ptr S.n 0 /\ T 3 = .lit (.int .i64 (i : Int)) /\ S'.objs S.n = .cells 90 [.sl .none 1 (treeL x.trees), .sl .none 4 (actL x.acts)] /\ Keep S S' /\ (x.trees.take i).all treeB = true) x.trees.length ?_ ?_
 · exact ⟨0, rfl, rfl, rfl, push_self _ _, Keep.push _ _, rfl⟩
 rintro n T S2 ⟨i, hi, e1, e3, ho, hk, hall⟩
 simp -implicitDefEqProofs (disch := omega) only [seval, go_sem, e1, e3, ho, hdt]
 refine cdK_d (fun hc => ?_) (fun hc => ?_)
 · have hlt : i < x.trees.length := by omega
   have hx := treeL_get hlt
   have htk := take_succ_D x.trees [] hlt
   have hmem : x.trees.getD i [] ∈ x.trees := getD_mem hlt
   have hbt := hb.ml _ hmem
   generalize x.trees.getD i [] = t at *
   have hdm := mkL_len t
   have hno : treeB t = false -> smallB x = false := fun h => by
    unfold smallB
    rw [show x.trees.all treeB = false from by rw [List.all_eq_false]; exact ⟨t, hmem, by rw [h]; simp⟩]
    rfl
   by_cases h8 : 8 < t.length
   · have ht : treeB t = false := by unfold treeB; rw [decide_eq_false (by omega)]; rfl
     rw [hno ht]
     simp -implicitDefEqProofs (disch := omega) only [seval, go_sem, e1, e3, ho, hdt, hx, hdm]
     exact ⟨.lit _, hk⟩
   · simp -implicitDefEqProofs (disch := omega) only [seval, go_sem, e1, e3, ho, hdt, hx, hdm]
     refine c_Small5 hbt.1 hbt.2 ?_
     cases ht : (t.all (fun m => decide (m.data.length <= 200)) && decide ((t.length : Int) <= 60)) with
     | false =>
      have ht2 : treeB t = false := by unfold treeB; rw [ht, Bool.and_false]
      rw [hno ht2]
      simp -implicitDefEqProofs (disch := omega) only [seval, go_sem, e1, e3, ho, hdt, hx, hdm]
      exact ⟨.lit _, hk⟩
     | true =>
      have ht2 : treeB t = true := by unfold treeB; rw [ht, Bool.and_true]; exact decide_eq_true (by omega)
      simp -implicitDefEqProofs (disch := omega) only [seval, go_sem, e1, e3, ho, hdt, hx, hdm]
      exact ⟨n - 1, by omega, i + 1, by omega, e1, rfl, ho, hk, by rw [htk, List.all_append, hall]; simp [ht2]⟩
 · have hall2 : x.trees.all treeB = true := by rw [← List.take_of_length_le (l := x.trees) (i := i) (by omega)]; exact hall
   have hs : smallB x = (decide ((x.trees.length : Int) <= 4) && decide ((x.acts.length : Int) <= 60)) := by unfold smallB; rw [hall2, Bool.true_and]
   rw [hs]
   by_cases h4 : (x.trees.length : Int) <= 4
   · rw [decide_eq_true h4, Bool.true_and]
     simp -implicitDefEqProofs (disch := omega) only [seval, go_sem, e1, e3, ho, hdt, hda]
     exact ⟨.lit _, hk⟩
   · rw [decide_eq_false h4, Bool.false_and]
     simp -implicitDefEqProofs (disch := omega) only [seval, go_sem, e1, e3, ho, hdt, hda]
     exact ⟨.lit _, hk⟩
set_option maxRecDepth 8000 in
set_option maxHeartbeats 1000000 in
theorem c_row10 {ars : List Bs} (ha : ArsB ars) {made : List RowM} (hm : ∀ r ∈ made, RowB r) (hml : made.length <= 1000) {x : ActM} {g : Tag} {S : TS} {K : TV -> TS -> Prop} (hK : K (rowN (rowG ars made x)) S) :
 TCall env 43 [worldV ars, .sl g 4 (dR made), actV x] S K := by
 refine TCall.toPureD (r := rowN (rowG ars made x)) ?_ hK
 have hdr := dR_len made
 have hdb := dBB_len ars
 have hN := names3_ok (x.a.toNat % 3) (Nat.mod_lt _ (by decide))
 obtain ⟨p0, ee, hmv, hp0, hp0l⟩ : ∃ (p0 : Bs) (ee : Int), mkV (names3.getD (x.a.toNat % 3) []) (ars.getD (x.b.toNat % ars.length) []) (riseL (refsM made x.b.toNat (x.more.toNat % 4))) = .tup [.lit (.string (st p0)), .lit (.int .i64 ee)] /\ rowG ars made x = ⟨(if 250 <= x.more.toNat then [UInt8.toBitVec 120] else []) ++ p0, (names3.getD (x.a.toNat % 3) []), (ars.getD (x.b.toNat % ars.length) []), (riseL (refsM made x.b.toNat (x.more.toNat % 4)))⟩ /\ p0.length <= 100 := by
  by_cases hok : refsOk (riseL (refsM made x.b.toNat (x.more.toNat % 4))) = true
  · exact ⟨mkP (names3.getD (x.a.toNat % 3) []) (ars.getD (x.b.toNat % ars.length) []) (riseL (refsM made x.b.toNat (x.more.toNat % 4))), 0, mkV_ok hN.1 hok, by unfold rowG; rw [if_pos hok], by rw [mkP_len]; omega⟩
  · exact ⟨[], 1, by rw [mkV, if_neg (by rw [hN.1]; simp), if_pos (by simpa using hok)], by unfold rowG; rw [if_neg hok], by simp⟩
 rw [hp0]
 rw [worldV_mk, actV_mk]
 refine TCall.w 86 [.cell 6 44] Tryz.func43 rfl rfl rfl rfl (by kernel_rfl) rfl ?_
 simp -implicitDefEqProofs (disch := omega) only [seval, go_sem]
 have hW1 : ∀ o, (((S.push (.cells 35 [.sl .none 1 (gD fW), .sl .none 1 (gD kW), .sl .none 1 (dBB ars), .sl .none 1 (dT names3), .sl .none 1 (dT [path0])])).push (.cells 92 [.lit (w8 x.do_), .lit (w8 x.a), .lit (w8 x.b), .lit (w8 x.more)])).push o).objs S.n = .cells 35 [.sl .none 1 (gD fW), .sl .none 1 (gD kW), .sl .none 1 (dBB ars), .sl .none 1 (dT names3), .sl .none 1 (dT [path0])] := fun o => psh_old0 (psh_old0 (push_self _ _) (Nat.lt_succ_self _)) (Nat.lt_succ_of_lt (Nat.lt_succ_self _))
 have hX1 : ∀ o, (((S.push (.cells 35 [.sl .none 1 (gD fW), .sl .none 1 (gD kW), .sl .none 1 (dBB ars), .sl .none 1 (dT names3), .sl .none 1 (dT [path0])])).push (.cells 92 [.lit (w8 x.do_), .lit (w8 x.a), .lit (w8 x.b), .lit (w8 x.more)])).push o).objs (S.n + 1) = .cells 92 [.lit (w8 x.do_), .lit (w8 x.a), .lit (w8 x.b), .lit (w8 x.more)] := fun o => psh_old0 (push_self (S.push _) _) (Nat.lt_succ_self _)
 refine loW.asRow 7 1 rfl (.inl rfl) ?_
 refine loW_inv (fun n T S' => ∃ (i k : Nat), n + i = min (x.more.toNat % 4) made.length /\ T 1 = .sl g 4 (dR made) /\ T 3 = .ptr S.n 0 /\ T 5 = .ptr (S.n + 1) 0 /\ T 6 = .ptr (S.n + 1 + 1) 0 /\ T 7 = .sl (.own k) 1 (dT ((refsM made x.b.toNat (x.more.toNat % 4)).take i)) /\ T 8 = .lit (.int .i64 (i : Int)) ∧
  S'.objs S.n = .cells 35 [.sl .none 1 (gD fW), .sl .none 1 (gD kW), .sl .none 1 (dBB ars), .sl .none 1 (dT names3), .sl .none 1 (dT [path0])] /\ S'.objs (S.n + 1) = .cells 92 [.lit (w8 x.do_), .lit (w8 x.a), .lit (w8 x.b), .lit (w8 x.more)] /\ S'.objs (S.n + 1 + 1) = .cells 44 [.lit (.string (st [])), .lit (.string (st [])), .sl .full 0 [], .sl .full 0 []] /\ S'.objs k = .lin /\ S.n + 1 + 1 < k /\ k < S'.n /\ Keep S S') (min (x.more.toNat % 4) made.length) ?_ ?_
 · exact ⟨0, S.n + 3, rfl, rfl, rfl, rfl, rfl, rfl, rfl, psh_old0 (hW1 _) (by show S.n < S.n + 3; omega), psh_old0 (hX1 _) (by show S.n + 1 < S.n + 3; omega), psh_old0 (push_self ((S.push _).push _) _) (by show S.n + 1 + 1 < S.n + 3; omega), push_self (((S.push _).push _).push _) _, by omega, Nat.lt_succ_self _, (((Keep.push _ _).push' _).push' _).push' _⟩
 clear hW1 hX1
 rintro n T S2 ⟨i, k, hi, e1, e3, e5, e6, e7, e8, hW, hX, hR, hk, hk3, hkn, hkp⟩
 have hmm : (x.more % 4#8).toNat = x.more.toNat % 4 := by rw [BitVec.toNat_umod]; rfl
 have hxb := x.b.isLt
 by_cases hc : i < min (x.more.toNat % 4) made.length
 · have hml0 : 0 < made.length := by omega
   have hlt : (x.b.toNat + i) % made.length < made.length := Nat.mod_lt _ hml0
   have hrl := refsM_len made x.b.toNat (x.more.toNat % 4)
   have htk := take_succ_D (refsM made x.b.toNat (x.more.toNat % 4)) [] (show i < _ by rw [hrl]; exact hc)
   have hri : (refsM made x.b.toNat (x.more.toNat % 4)).getD i [] = (made.getD ((x.b.toNat + i) % made.length) default).path := by
    unfold refsM
    rw [List.getD_eq_getElem?_getD, List.getElem?_map, List.getElem?_range hc]; rfl
   have hx := dR_get hlt
   have hrb := hm _ (getD_mem (d := default) hlt)
   have htl := dT_len ((refsM made x.b.toNat (x.more.toNat % 4)).take i)
   have htl2 : ((refsM made x.b.toNat (x.more.toNat % 4)).take i).length <= 4 := by rw [List.length_take]; omega
   rw [hri] at htk
   have htm : (((x.b.toNat + i : Nat) : Int)).tmod (made.length : Int) = (((x.b.toNat + i) % made.length : Nat) : Int) := (Int.ofNat_tmod _ _).symm
   generalize made.getD ((x.b.toNat + i) % made.length) default = r at *
   rw [rowD_mk] at hx
   simp -implicitDefEqProofs (disch := omega) only [seval, go_sem, e1, e3, e5, e6, e7, e8, hW, hX, hdr, hmm, htm, hx, hk, htl]
   refine ⟨n - 1, by omega, i + 1, S2.n, by omega, e1, e3, e5, e6, ?_, rfl, psh_old0 ((st_old _ (by omega)).trans hW) (by show S.n < S2.n; omega), psh_old0 ((st_old _ (by omega)).trans hX) (by show S.n + 1 < S2.n; omega), psh_old0 ((st_old _ (by omega)).trans hR) (by show S.n + 1 + 1 < S2.n; omega), push_self _ _, by omega, Nat.lt_succ_self _, (hkp.set (by omega) _).push' _⟩
   rw [htk, dT_app]
   rfl
 · have hrl := refsM_len made x.b.toNat (x.more.toNat % 4)
   rw [List.take_of_length_le (by omega)] at e7
   have hq : ¬ i < x.more.toNat % 4 ∨ ¬ i < made.length := by omega
   have harl : 0 < ars.length := List.length_pos_iff.2 ha.ne
   have hal5 := ha.ll
   have hn3 : (dT names3).length = 3 := rfl
   have htm1 : ((x.a.toNat : Int)).tmod 3 = ((x.a.toNat % 3 : Nat) : Int) := (Int.ofNat_tmod _ _).symm
   have htm2 : ((x.b.toNat : Int)).tmod (ars.length : Int) = ((x.b.toNat % ars.length : Nat) : Int) := (Int.ofNat_tmod _ _).symm
   have hx1 := dT_get (xs := names3) (i := x.a.toNat % 3) (Nat.mod_lt _ (by decide))
   have hx2 := dBB_get (l := ars) (i := x.b.toNat % ars.length) (Nat.mod_lt _ harl)
   have h3 : x.a.toNat % 3 < 3 := Nat.mod_lt _ (by decide)
   have h5 : x.b.toNat % ars.length < ars.length := Nat.mod_lt _ harl
   have hWn : ∀ o, (S2.push o).objs S.n = .cells 35 [.sl .none 1 (gD fW), .sl .none 1 (gD kW), .sl .none 1 (dBB ars), .sl .none 1 (dT names3), .sl .none 1 (dT [path0])] := fun o => psh_old0 hW (by omega)
   have hXn : ∀ o, (S2.push o).objs (S.n + 1) = .cells 92 [.lit (w8 x.do_), .lit (w8 x.a), .lit (w8 x.b), .lit (w8 x.more)] := fun o => psh_old0 hX (by omega)
   have hX2 : ∀ o o', ((S2.push o).push o').objs (S.n + 1) = .cells 92 [.lit (w8 x.do_), .lit (w8 x.a), .lit (w8 x.b), .lit (w8 x.more)] := fun o o' => psh_old0 (hXn o) (by show S.n + 1 < S2.n + 1; omega)
   have hR2 : ∀ o o', ((S2.push o).push o').objs (S.n + 1 + 1) = .cells 44 [.lit (.string (st [])), .lit (.string (st [])), .sl .full 0 [], .sl .full 0 []] := fun o o' => psh_old0 (psh_old0 hR (by omega)) (by show S.n + 1 + 1 < S2.n + 1; omega)
   have hP2 : ∀ o o', ((S2.push o).push o').objs (S2.n + 1) = o' := fun o o' => push_self (S2.push o) o'
   have hrll := riseL_len (refsM made x.b.toNat (x.more.toNat % 4))
   have hrpl : ∀ q ∈ riseL (refsM made x.b.toNat (x.more.toNat % 4)), q.length <= 100000 := fun q hq => by
    obtain ⟨r, hr, rfl⟩ := List.mem_map.1 (refsM_mem ((riseL_mem _ _).1 hq))
    exact (hm r hr).pt
   have hab : (ars.getD (x.b.toNat % ars.length) []).length <= 1000000 := ha.b _ (getD_mem h5)
   have hadd : tvBin Tryz.prog .add 9 (.string (st [UInt8.toBitVec 120])) (.string (st p0)) = some (.string (st (UInt8.toBitVec 120 :: p0))) := str_add _ _ _ _ (by show 1 + p0.length <= _; omega)
   generalize (names3.getD (x.a.toNat % 3) []) = nm at *
   generalize (ars.getD (x.b.toNat % ars.length) []) = arc at *
   by_cases hq1 : i < x.more.toNat % 4
   · have hq2 : ¬ i < made.length := by omega
     simp -implicitDefEqProofs (disch := omega) only [seval, go_sem, e1, e3, e5, e6, e7, e8, hW, hX, hdr, hmm, hk]
     refine c_godownref01_Rise ?_ (by rw [hrl]; omega)
     generalize (riseL (refsM made x.b.toNat (x.more.toNat % 4))) = refs at *
     simp -implicitDefEqProofs (disch := omega) only [seval, go_sem, e1, e3, e5, e6, e7, e8, hW, hX, hdr, hmm, hk]
     refine drW_at [(0, 0), (1, 0), (2, 0), (3, 0), (4, 0), (5, 0), (6, 0), (7, 0), (8, 0), (9, 0), (10, 0), (11, 0), (12, 0), (13, 0), (14, 0), (15, 0), (16, 0), (17, 0), (18, 0), (19, 0), (20, 0), (21, 0), (22, 0), (23, 0), (24, 1), (25, 2)] followsN (by kernel_rfl) ?_
     simp -implicitDefEqProofs (disch := omega) only [seval, go_sem, e1, e3, e5, e6, e7, e8, hWn, hXn, hdr, hdb, hmm, hn3, htm1, htm2, hx1, hx2]
     refine c_godownref07_Make ?_ hrpl (by omega) hab (by omega)
     rw [hmv]
     simp -implicitDefEqProofs (disch := omega) only [seval, go_sem, e1, e3, e5, e6, e7, e8, hX2, hR2, hP2, hmm]
     refine cdK_d (fun hcx => ?_) (fun hcx => ?_)
     · simp -implicitDefEqProofs (disch := omega) only [seval, go_sem, e1, e3, e5, e6, e7, e8, hX2, hR2, hP2, hmm, hadd]
       refine ⟨_, resCell (id := S.n + 1 + 1) e6 ti44 (psh_old0 (psh_old0 (TS.set_same' _ _ _) (by show S.n + 1 + 1 < S2.n; omega)) (by show S.n + 1 + 1 < S2.n + 1; omega)) rfl rfl, ?_⟩
       refine ⟨_, ?_, ren_rowN _ _ _, ((hkp.set (by omega) _).push' _).push' _⟩
       rw [if_pos (show 250 <= x.more.toNat by omega), rowN_mk]
       exact .aggF (.cons (.refl _) (.cons (.refl _) (.cons (.refl _) (.cons (.sl _ _ _) .nil))))
     · simp -implicitDefEqProofs (disch := omega) only [seval, go_sem, e1, e3, e5, e6, e7, e8, hX2, hR2, hP2, hmm]
       refine ⟨_, resCell (id := S.n + 1 + 1) e6 ti44 (psh_old0 (psh_old0 (TS.set_same' _ _ _) (by show S.n + 1 + 1 < S2.n; omega)) (by show S.n + 1 + 1 < S2.n + 1; omega)) rfl rfl, ?_⟩
       refine ⟨_, ?_, ren_rowN _ _ _, ((hkp.set (by omega) _).push' _).push' _⟩
       rw [if_neg (show ¬ 250 <= x.more.toNat by omega), rowN_mk]
       exact .aggF (.cons (.refl _) (.cons (.refl _) (.cons (.refl _) (.cons (.sl _ _ _) .nil))))
   · simp -implicitDefEqProofs (disch := omega) only [seval, go_sem, e1, e3, e5, e6, e7, e8, hW, hX, hdr, hmm, hk]
     refine c_godownref01_Rise ?_ (by rw [hrl]; omega)
     generalize (riseL (refsM made x.b.toNat (x.more.toNat % 4))) = refs at *
     simp -implicitDefEqProofs (disch := omega) only [seval, go_sem, e1, e3, e5, e6, e7, e8, hW, hX, hdr, hmm, hk]
     refine drW_at [(0, 0), (1, 0), (2, 0), (3, 0), (4, 0), (5, 0), (6, 0), (7, 0), (8, 0), (9, 0), (10, 0), (11, 0), (12, 0), (13, 0), (14, 0), (15, 0), (16, 0), (17, 0), (18, 0), (19, 0), (20, 0), (21, 0), (22, 0), (23, 0), (24, 1), (25, 2)] followsN (by kernel_rfl) ?_
     simp -implicitDefEqProofs (disch := omega) only [seval, go_sem, e1, e3, e5, e6, e7, e8, hWn, hXn, hdr, hdb, hmm, hn3, htm1, htm2, hx1, hx2]
     refine c_godownref07_Make ?_ hrpl (by omega) hab (by omega)
     rw [hmv]
     simp -implicitDefEqProofs (disch := omega) only [seval, go_sem, e1, e3, e5, e6, e7, e8, hX2, hR2, hP2, hmm]
     refine cdK_d (fun hcx => ?_) (fun hcx => ?_)
     · simp -implicitDefEqProofs (disch := omega) only [seval, go_sem, e1, e3, e5, e6, e7, e8, hX2, hR2, hP2, hmm, hadd]
       refine ⟨_, resCell (id := S.n + 1 + 1) e6 ti44 (psh_old0 (psh_old0 (TS.set_same' _ _ _) (by show S.n + 1 + 1 < S2.n; omega)) (by show S.n + 1 + 1 < S2.n + 1; omega)) rfl rfl, ?_⟩
       refine ⟨_, ?_, ren_rowN _ _ _, ((hkp.set (by omega) _).push' _).push' _⟩
       rw [if_pos (show 250 <= x.more.toNat by omega), rowN_mk]
       exact .aggF (.cons (.refl _) (.cons (.refl _) (.cons (.refl _) (.cons (.sl _ _ _) .nil))))
     · simp -implicitDefEqProofs (disch := omega) only [seval, go_sem, e1, e3, e5, e6, e7, e8, hX2, hR2, hP2, hmm]
       refine ⟨_, resCell (id := S.n + 1 + 1) e6 ti44 (psh_old0 (psh_old0 (TS.set_same' _ _ _) (by show S.n + 1 + 1 < S2.n; omega)) (by show S.n + 1 + 1 < S2.n + 1; omega)) rfl rfl, ?_⟩
       refine ⟨_, ?_, ren_rowN _ _ _, ((hkp.set (by omega) _).push' _).push' _⟩
       rw [if_neg (show ¬ 250 <= x.more.toNat by omega), rowN_mk]
       exact .aggF (.cons (.refl _) (.cons (.refl _) (.cons (.refl _) (.cons (.sl _ _ _) .nil))))
end Go.Proofs.YtoldjfappfbfbaaGreatDoor
namespace Go.Proofs.YtoldjfappfbfbaaGreatDoor
open Go.RowKit TL
section
variable {S : TS}
end
def xP : Bs := [UInt8.toBitVec 120]
theorem del_new : deleteM .new xP = (.new, 5) := by unfold deleteM; exact if_pos rfl
def oneM : StM := touchM { StM.new with L := [rowOne [1#8]], ver := 1#64 } [mkP nN [1#8] []]
theorem oneM_has : hasP oneM.L (mkP nN [1#8] []) = true := by simp [oneM, touchM, hasP, rowAt, rowOne]
section
variable {S : TS}
set_option maxRecDepth 8000 in
set_option maxHeartbeats 1000000 in
theorem c_fresh10 {K : TV -> TS -> Prop} (hK : K (.lit (.bool true)) S) : TCall env 36 [] S K := by
 refine TCall.toPure (r := .lit (.bool true)) ?_ hK
 refine TCall.w 41 [.tmp 0] Tryz.func36 rfl rfl rfl rfl (by kernel_rfl) rfl ?_
 simp -implicitDefEqProofs (disch := omega) only [seval, go_sem]
 refine c_Store_new fun S1 s I h1 hf1 hk1 => ?_
 simp -implicitDefEqProofs (disch := omega) only [seval, go_sem]
 refine c_Version h1 ?_
 rw [show StM.new.ver = 0#64 from rfl]
 simp -implicitDefEqProofs (disch := omega) only [seval, go_sem]
 refine c_Delete (p := xP) h1 .nil (fun r hr => by cases hr) fun S2 I2 h2 t2 => ?_
 rw [del_new] at h2 ⊢
 simp -implicitDefEqProofs (disch := omega) only [seval, go_sem]
 refine c_r10_New ?_
 simp -implicitDefEqProofs (disch := omega) only [seval, go_sem, refV_mk]
 refine .argL (.same (.same (.same (.empty .nil)))) (c_ref07_Make0 (nm := nN) (ar := [1#8]) (ga := .full) ?_ right_n (by simp))
 simp -implicitDefEqProofs (disch := omega) only [seval, go_sem]
 refine .conv (b := [.ptr s 0, .sl .none 4 (dR [rowOne [1#8]])]) (.cons (.refl _) (.cons (.sl _ (.cons (De.aggF (.cons (.refl _) (.cons (.refl _) (.cons (.refl _) (.cons (.sl0 _ _) .nil))))) .nil)) .nil)) ?_
 refine c_Put h2 .nil (fun r hr => by rw [List.mem_singleton] at hr; subst hr; exact rowOne_B _ (by simp)) (.inl rfl) (by simp) (fun S4 I4 g4 t4 => ?_)
 rw [put_one] at g4 ⊢
 have g5 : StOk S4 s I4 (touchM { StM.new with L := [rowOne [1#8]], ver := 1#64 } [mkP nN [1#8] []]) := g4
 simp -implicitDefEqProofs (disch := omega) only [seval, go_sem]
 refine c_Has g5 ?_
 rw [show hasP (touchM { StM.new with L := [rowOne [1#8]], ver := 1#64 } [mkP nN [1#8] []]).L (mkP nN [1#8] []) = true from oneM_has]
 simp -implicitDefEqProofs (disch := omega) only [seval, go_sem]
 refine c_Version g5 ?_
 rw [show (touchM { StM.new with L := [rowOne [1#8]], ver := 1#64 } [mkP nN [1#8] []]).ver = 1#64 from rfl]
 simp -implicitDefEqProofs (disch := omega) only [seval, go_sem]
 refine ⟨.lit _, ⟨?_, fun id hid => ?_⟩⟩
 · have := hk1.1; have := t2.fr.n; have := t4.fr.n; omega
 · have a1 := hk1.1; have a2 := t2.fr.n
   have b1 : ¬ stF s I id := fun h => by have := hf1 id h; omega
   have b2 : ¬ stF s I2 id := fun h => (t2.sub id h).elim b1 (fun h => by omega)
   rw [t4.fr.o id (by omega) b2, t2.fr.o id (by omega) b1, hk1.2 id hid]
end
end Go.Proofs.YtoldjfappfbfbaaGreatDoor
namespace Go.Proofs.YtoldjfappfbfbaaGreatDoor.TL
open Go.RowKit
def Wr (E : Env) (N : Nat) : Nat -> Code -> (Exit -> (Nat -> TV) -> TS -> Prop) -> (Nat -> TV) -> TS -> Prop
 | k + 1, .seq a b, Q, T, S => W E N a (thenT (fun T S => Wr E N k b Q T S) Q) T S
 | _, c, Q, T, S => TWp E N c Q T S
theorem Wr_ok {E : Env} {N : Nat} : ∀ (k : Nat) {c : Code} {Q : Exit -> (Nat -> TV) -> TS -> Prop} {T : Nat -> TV} {S : TS}, Wr E N k c Q T S -> TWp E N c Q T S
 | 0, c, _, _, _, h => by cases c <;> exact h
 | k + 1, .seq a b, Q, T, S, h => .seq ((W_ok (c := a) h).mono fun e T' S' hq => by
  cases e with
  | normal => exact Wr_ok k (c := b) hq
  | _ => exact hq)
 | k + 1, .skip, _, _, _, h | k + 1, .label _, _, _, _, h | k + 1, .exit _, _, _, _, h | k + 1, .ret, _, _, _, h | k + 1, .cond .., _, _, _, h | k + 1, .block .., _, _, _, h | k + 1, .region .., _, _, _, h | k + 1, .loop .., _, _, _, h | k + 1, .rangeFunc .., _, _, _, h | k + 1, .scope .., _, _, _, h | k + 1, .goto .., _, _, _, h | k + 1, .refuse .., _, _, _, h => h
section
variable {E : Env} {N : Nat} {Q : Exit -> (Nat -> TV) -> TS -> Prop} {T : Nat -> TV} {S : TS}
def wrK (E : Env) (N k : Nat) (b : Code) (_ : Pin b) (Q : Exit -> (Nat -> TV) -> TS -> Prop) : Exit -> (Nat -> TV) -> TS -> Prop := thenT (fun T S => Wr E N k b Q T S) Q
def stW (E : Env) (N : Nat) (c : Code) (_ : Pin c) (Q : Exit -> (Nat -> TV) -> TS -> Prop) (T : Nat -> TV) (_ : Pin T) (S : TS) : Prop := TWp E N c Q T S
theorem Wr_seq (k : Nat) (a b : Code) : Wr E N (k + 1) (.seq a b) Q T S = W E N a (wrK E N k b .mk Q) T S := rfl
theorem Wr_zero (c : Code) : Wr E N 0 c Q T S = stW E N c .mk Q T .mk S := by cases c <;> rfl
theorem wrK_n {k : Nat} {b : Code} {p : Pin b} : wrK E N k b p Q .normal T S = Wr E N k b Q T S := rfl
theorem wrK_r {k : Nat} {b : Code} {p : Pin b} : wrK E N k b p Q .ret T S = Q .ret T S := rfl
theorem wrK_e {k : Nat} {b : Code} {p : Pin b} {i : Nat} : wrK E N k b p Q (.exit i) T S = Q (.exit i) T S := rfl
attribute [go_sem ↓] Wr_seq Wr_zero wrK_n wrK_r wrK_e
theorem TCall.wr (k : Nat) {f : FuncId} {fn : Func} {body : Code} {args : List TV} {R : TV -> TS -> Prop} (N : Nat) (rs : List ResultVar) (hf : E.P.funcs[f]? = some fn) (hb : fn.body = some body) (hname : (fn.name == "runtime.NumGoroutine") = false)
 (hN : args.length + (fn.ntmps - args.length) = N) (hrs : fn.results.toList = rs) (hin : codeInb N body = true) (hres : rs.all (resInb N) = true)
 (h : Wr E N k body (finK E rs R) (argsT args) S) : TCall E f args S R :=
 .of N rs hf hb hname hN hrs hin hres ((Wr_ok k h).mono fun _ _ _ ⟨h1, h2⟩ => ⟨h1, resT_ok h2⟩)
theorem stW.asBuf (k : Nat) (i e : Nat) {s : Nat} (s' : Nat) {c : Code} {p : Pin c} {pT : Pin T} (h : T i = .sl .full s []) (hw : Wr E N k c Q (upd T i (.vs S.n 0 s' 0)) (S.push (.cells e []))) : stW E N c p Q T pT S := TWp.asBuf i e s' h (Wr_ok k hw)
theorem stW.freeze (k : Nat) (i : Nat) {id off s len : Nat} {ag : Bool} {ds : List D} {c : Code} {p : Pin c} {pT : Pin T} (h : T i = .vs id off s len)
 (hd : srcD S ag s (.vs id off s len) = some ds) (hw : Wr E N k c Q (upd T i (.sl .none s ds)) (S.set id .gone)) : stW E N c p Q T pT S := TWp.freeze i h hd (Wr_ok k hw)
theorem stW.go (k : Nat) {c : Code} {p : Pin c} {pT : Pin T} (hw : Wr E N k c Q T S) : stW E N c p Q T pT S := Wr_ok k hw
end
end Go.Proofs.YtoldjfappfbfbaaGreatDoor.TL
namespace Go.Proofs.YtoldjfappfbfbaaGreatDoor.TL
open Go.RowKit
def Wp (E : Env) (N : Nat) : List Nat -> Code -> (Exit -> (Nat -> TV) -> TS -> Prop) -> (Nat -> TV) -> TS -> Prop
 | 1 :: p, .seq a b, Q, T, S => W E N a (thenT (fun T S => Wp E N p b Q T S) Q) T S
 | 0 :: p, .seq a b, Q, T, S => Wp E N p a (seqK E N b .mk Q) T S
 | 2 :: p, .block id c, Q, T, S => Wp E N p c (blkK id Q) T S
 | _, c, Q, T, S => TWp E N c Q T S
theorem Wp_ok {E : Env} {N : Nat} (p : List Nat) (c : Code) (Q : Exit -> (Nat -> TV) -> TS -> Prop) (T : Nat -> TV) (S : TS) (h : Wp E N p c Q T S) : TWp E N c Q T S := by
 revert h
 fun_induction Wp E N p c Q T S with
 | case1 p a b Q T S ih =>
  intro h
  exact .seq ((W_ok (c := a) h).mono fun e T' S' hq => by
   cases e with
   | normal => exact ih T' S' hq
   | _ => exact hq)
 | case2 p a b Q T S ih =>
  intro h
  exact .seq ((ih h).mono fun e T' S' hq => by
   cases e with
   | normal => exact W_ok (c := b) hq
   | _ => exact hq)
 | case3 p id c Q T S ih =>
  intro h
  exact .block (ih h)
 | case4 => exact fun h => h
section
variable {E : Env} {N : Nat} {Q : Exit -> (Nat -> TV) -> TS -> Prop} {T : Nat -> TV} {S : TS}
def wpK (E : Env) (N : Nat) (p : List Nat) (b : Code) (_ : Pin b) (Q : Exit -> (Nat -> TV) -> TS -> Prop) : Exit -> (Nat -> TV) -> TS -> Prop := thenT (fun T S => Wp E N p b Q T S) Q
theorem Wp_1 (p : List Nat) (a b : Code) : Wp E N (1 :: p) (.seq a b) Q T S = W E N a (wpK E N p b .mk Q) T S := by rw [Wp]; rfl
theorem Wp_0 (p : List Nat) (a b : Code) : Wp E N (0 :: p) (.seq a b) Q T S = Wp E N p a (seqK E N b .mk Q) T S := by rw [Wp]
theorem Wp_2 (p : List Nat) (id : Nat) (c : Code) : Wp E N (2 :: p) (.block id c) Q T S = Wp E N p c (blkK id Q) T S := by rw [Wp]
theorem Wp_nil (c : Code) : Wp E N [] c Q T S = stW E N c .mk Q T .mk S := by rw [Wp]; rfl; all_goals simp
theorem wpK_n {p : List Nat} {b : Code} {q : Pin b} : wpK E N p b q Q .normal T S = Wp E N p b Q T S := rfl
theorem wpK_r {p : List Nat} {b : Code} {q : Pin b} : wpK E N p b q Q .ret T S = Q .ret T S := rfl
theorem wpK_e {p : List Nat} {b : Code} {q : Pin b} {i : Nat} : wpK E N p b q Q (.exit i) T S = Q (.exit i) T S := rfl
def cutK (P : (Nat -> TV) -> TS -> Prop) (Q : Exit -> (Nat -> TV) -> TS -> Prop) : Exit -> (Nat -> TV) -> TS -> Prop := thenT (fun T S => P T S) Q
def atC (P : (Nat -> TV) -> TS -> Prop) (T : Nat -> TV) (S : TS) : Prop := P T S
theorem cutK_n {P : (Nat -> TV) -> TS -> Prop} : cutK P Q .normal T S = atC P T S := rfl
theorem cutK_r {P : (Nat -> TV) -> TS -> Prop} : cutK P Q .ret T S = Q .ret T S := rfl
theorem cutK_e {P : (Nat -> TV) -> TS -> Prop} {i : Nat} : cutK P Q (.exit i) T S = Q (.exit i) T S := rfl
attribute [go_sem ↓] Wp_1 Wp_0 Wp_2 Wp_nil wpK_n wpK_r wpK_e cutK_n cutK_r cutK_e
theorem stW.cut (P : (Nat -> TV) -> TS -> Prop) {a b : Code} {p : Pin (Code.seq a b)} {pT : Pin T} (ha : W E N a (cutK P Q) T S) (hb : ∀ T S, P T S -> W E N b Q T S) : stW E N (.seq a b) p Q T pT S :=
 TWp.seq ((W_ok ha).mono fun e T S h => by
  cases e with
  | normal => exact W_ok (hb _ _ h)
  | _ => exact h)
theorem TCall.wp (path : List Nat) {f : FuncId} {fn : Func} {body : Code} {args : List TV} {R : TV -> TS -> Prop} (N : Nat) (rs : List ResultVar) (hf : E.P.funcs[f]? = some fn) (hb : fn.body = some body) (hname : (fn.name == "runtime.NumGoroutine") = false)
 (hN : args.length + (fn.ntmps - args.length) = N) (hrs : fn.results.toList = rs) (hin : codeInb N body = true) (hres : rs.all (resInb N) = true)
 (h : Wp E N path body (finK E rs R) (argsT args) S) : TCall E f args S R :=
 .of N rs hf hb hname hN hrs hin hres ((Wp_ok _ _ _ _ _ h).mono fun _ _ _ ⟨h1, h2⟩ => ⟨h1, resT_ok h2⟩)
end
end Go.Proofs.YtoldjfappfbfbaaGreatDoor.TL
namespace Go.Proofs.YtoldjfappfbfbaaGreatDoor
open Go.RowKit TL
theorem stampT_snoc (tc : List (Bs × BitVec 64)) (x : Bs × BitVec 64) (p : Bs) : stampT (tc ++ [x]) p = if x.1 = p then x.2 else stampT tc p := by
 unfold stampT
 rw [List.foldl_append]
 rfl
theorem findI_at {L : List RowM} {p : Bs} {r : RowM} (h : rowAt L p = some r) : ∃ i, i < L.length /\ findI L p = (i : Int) /\ L.getD i default = r := by
 have hp : hasP L p = true := by unfold hasP; rw [h]; rfl
 refine ⟨L.findIdx fun r => decide (r.path = p), ?_, ?_, ?_⟩
 · obtain ⟨r', hr', he⟩ := List.mem_map.1 ((hasP_iff L p).1 hp)
   exact List.findIdx_lt_length_of_exists ⟨r', hr', decide_eq_true he⟩
 · unfold findI; rw [if_pos hp]
 · unfold rowAt at h
   rw [List.find?_eq_some_iff_getElem] at h
   obtain ⟨h1, i, hi, h2, h3⟩ := h
   have : L.findIdx (fun r => decide (r.path = p)) = i := by
    rw [List.findIdx_eq hi]
    refine ⟨by rw [h2]; exact h1, fun j hj => ?_⟩
    have := h3 j hj
    simpa using this
   rw [this, List.getD_eq_getElem?_getD, List.getElem?_eq_getElem hi]
   exact h2
theorem pathsOf_app (a b : List RowM) : pathsOf (a ++ b) = pathsOf a ++ pathsOf b := List.map_append
section
variable {S : TS} {M : StM}
set_option maxRecDepth 8000 in
set_option maxHeartbeats 1000000 in
theorem c_r10_Stamp {p : Bs} {K : TV -> TS -> Prop} (hK : K (.lit (w64 (stampT M.tc p))) S) (hb : RefB M) : TCall env 27 [refV M, .lit (.string (st p))] S K := by
 refine TCall.toPure (r := .lit (w64 (stampT M.tc p))) ?_ hK
 have htl := hb.tl
 have hdl := dC_len M.tc
 rw [refV_mk]
 refine TCall.w 29 [.tmp 4] Tryz.func27 rfl rfl rfl rfl (by kernel_rfl) rfl ?_
 simp -implicitDefEqProofs (disch := omega) only [seval, go_sem]
 generalize hS1 : S.push _ = S1
 have hbox : S1.objs S.n = .cells 66 [.sl .none 1 (gD fW), .sl .none 1 (gD kW), .sl .none 4 (dR M.L), .sl .none 1 (dT M.roots), .lit (w64 M.ver), .sl .none 2 (dC M.tc)] := by rw [← hS1]; exact push_self _ _
 have hkp : Keep S S1 := by rw [← hS1]; exact Keep.push _ _
 refine loW_inv (fun n T S' => ∃ i : Nat, n + i = M.tc.length /\ T 1 = .lit (.string (st p)) /\ T 2 = .ptr S.n 0 /\ T 5 = .lit (w64 (stampT (M.tc.take i) p)) /\ T 6 = .lit (.int .i64 (i : Int)) /\ S' = S1) M.tc.length ?_ ?_
 · exact ⟨0, rfl, rfl, rfl, rfl, rfl, rfl⟩
 rintro n T S2 ⟨i, hi, h1, h2, h5, h6, rfl⟩
 simp -implicitDefEqProofs (disch := omega) only [seval, go_sem, h1, h2, h5, h6, hbox, hdl]
 refine cdK_d (fun hc => ?_) (fun hc => ?_)
 · have hlt : i < M.tc.length := by omega
   have hx := dC_get hlt
   have htk := take_succ_D M.tc (i := i) default hlt
   generalize hr : M.tc.getD i default = r at *
   obtain ⟨q, v⟩ := r
   rw [cD_mk] at hx
   simp -implicitDefEqProofs (disch := omega) only [seval, go_sem, h1, h2, h5, h6, hbox, hdl, hx]
   refine cdK_d (fun hc2 => ?_) (fun hc2 => ?_)
   · simp -implicitDefEqProofs (disch := omega) only [seval, go_sem, h1, h2, h5, h6, hbox, hdl, hx]
     refine ⟨n - 1, by omega, i + 1, by omega, h1, h2, ?_, rfl, rfl⟩
     rw [htk, stampT_snoc, if_pos hc2]
     rfl
   · simp -implicitDefEqProofs (disch := omega) only [seval, go_sem, h1, h2, h5, h6, hbox, hdl, hx]
     refine ⟨n - 1, by omega, i + 1, by omega, h1, h2, ?_, rfl, rfl⟩
     rw [htk, stampT_snoc, if_neg hc2]
     exact h5
 · rw [List.take_of_length_le (by omega)] at h5
   simp -implicitDefEqProofs (disch := omega) only [seval, go_sem, h1, h2, h5, h6, hbox, hdl]
   exact ⟨.lit _, hkp⟩
set_option maxRecDepth 8000 in
set_option maxHeartbeats 1000000 in
theorem c_r10_Paths {K : TV -> TS -> Prop} (hK : K (.sl .none 1 (dT (riseL (pathsOf M.L)))) S) (hb : RefB M) (hll : M.L.length <= 100000) : TCall env 100 [refV M] S K := by
 refine TCall.toPureD (r := .sl .none 1 (dT (riseL (pathsOf M.L)))) ?_ hK
 have hdl := dR_len M.L
 rw [refV_mk]
 refine TCall.w 23 [.tmp 2] Tryz.func100 rfl rfl rfl rfl (by kernel_rfl) rfl ?_
 simp -implicitDefEqProofs (disch := omega) only [seval, go_sem]
 have hbox : (S.push (.cells 66 [.sl .none 1 (gD fW), .sl .none 1 (gD kW), .sl .none 4 (dR M.L), .sl .none 1 (dT M.roots), .lit (w64 M.ver), .sl .none 2 (dC M.tc)])).objs S.n = .cells 66 [.sl .none 1 (gD fW), .sl .none 1 (gD kW), .sl .none 4 (dR M.L), .sl .none 1 (dT M.roots), .lit (w64 M.ver), .sl .none 2 (dC M.tc)] := push_self _ _
 refine loW.asRow 3 1 rfl (.inl rfl) ?_
 refine loW_inv (fun n T S' => ∃ (i k : Nat), n + i = M.L.length /\ T 1 = .ptr S.n 0 /\ T 3 = .sl (.own k) 1 (dT (pathsOf (M.L.take i))) /\ T 4 = .lit (.int .i64 (i : Int)) /\ S'.objs S.n = .cells 66 [.sl .none 1 (gD fW), .sl .none 1 (gD kW), .sl .none 4 (dR M.L), .sl .none 1 (dT M.roots), .lit (w64 M.ver), .sl .none 2 (dC M.tc)] /\ S'.objs k = .lin /\ S.n < k /\ k < S'.n /\ Keep S S') M.L.length ?_ ?_
 · exact ⟨0, S.n + 1, rfl, rfl, rfl, rfl, psh_old0 hbox (Nat.lt_succ_self _), push_self _ _, Nat.lt_succ_self _, Nat.lt_succ_self _, (Keep.push _ _).push' _⟩
 clear hbox
 rintro n T S2 ⟨i, k, hi, h1, h3, h4, hbox, hk, hk1, hk2, hkp⟩
 have hpl : (dT (pathsOf (M.L.take i))).length = i := by rw [dT_len, pathsOf, List.length_map, List.length_take]; omega
 by_cases hc : i < M.L.length
 · have hx := dR_get hc
   have htk := take_succ_D M.L (i := i) default hc
   generalize M.L.getD i default = r at *
   rw [rowD_mk] at hx
   simp -implicitDefEqProofs (disch := omega) only [seval, go_sem, h1, h3, h4, hbox, hdl, hx, hk, hpl]
   refine ⟨n - 1, by omega, i + 1, S2.n, by omega, h1, ?_, rfl, psh_old0 ((st_old _ (by omega)).trans hbox) (by show S.n < S2.n; omega), push_self _ _, by omega, Nat.lt_succ_self _, (hkp.set (by omega) _).push' _⟩
   rw [htk, pathsOf_app, dT_app]; rfl
 · rw [List.take_of_length_le (by omega)] at h3
   simp -implicitDefEqProofs (disch := omega) only [seval, go_sem, h1, h3, h4, hbox, hdl]
   refine c_godownref01_Rise ?_ (by rw [pathsOf, List.length_map]; omega)
   simp -implicitDefEqProofs (disch := omega) only [seval, go_sem]
   exact ⟨_, .refl _, .slN _ _ _, hkp.push' _⟩
set_option maxRecDepth 8000 in
set_option maxHeartbeats 1000000 in
theorem c_r10_Refs {p : Bs} {K : TV -> TS -> Prop} (hK : K (.sl .none 1 (dT (refsOf M.L p))) S) (hb : RefB M) : TCall env 102 [refV M, .lit (.string (st p))] S K := by
 refine TCall.toPureD (r := .sl .none 1 (dT (refsOf M.L p))) ?_ hK
 have hll := hb.ll
 have hdl := dR_len M.L
 rw [refV_mk]
 refine TCall.w 17 [.tmp 4] Tryz.func102 rfl rfl rfl rfl (by kernel_rfl) rfl ?_
 simp -implicitDefEqProofs (disch := omega) only [seval, go_sem]
 have hbox : (S.push (.cells 66 [.sl .none 1 (gD fW), .sl .none 1 (gD kW), .sl .none 4 (dR M.L), .sl .none 1 (dT M.roots), .lit (w64 M.ver), .sl .none 2 (dC M.tc)])).objs S.n = .cells 66 [.sl .none 1 (gD fW), .sl .none 1 (gD kW), .sl .none 4 (dR M.L), .sl .none 1 (dT M.roots), .lit (w64 M.ver), .sl .none 2 (dC M.tc)] := push_self _ _
 rw [← refV_mk]
 refine c_r10_Find ?_ hb
 unfold refsOf
 cases hr : rowAt M.L p with
 | none =>
  have hf : findI M.L p = -1 := by
   unfold findI
   rw [if_neg (by rw [rowAt_none.1 hr]; simp)]
  rw [hf]
  simp -implicitDefEqProofs (disch := omega) only [seval, go_sem]
  exact ⟨_, .sl0 _ _ _, .slN _ _ _, Keep.push _ _⟩
 | some r =>
  obtain ⟨i, hi, hf, hg⟩ := findI_at hr
  have hx := dR_get hi
  rw [hg, rowD_mk] at hx
  rw [hf]
  simp -implicitDefEqProofs (disch := omega) only [seval, go_sem, hbox, hdl, hx]
  exact ⟨_, .refl _, .slN _ _ _, Keep.push _ _⟩
set_option maxRecDepth 8000 in
set_option maxHeartbeats 1000000 in
theorem c_r10_Referrers {p : Bs} {K : TV -> TS -> Prop} (hK : K (.sl .none 1 (dT (referrersL M.L p))) S) (hb : RefB M) (hll : M.L.length <= 100000) (hrl : ∀ r ∈ M.L, r.refs.length <= 100000) : TCall env 77 [refV M, .lit (.string (st p))] S K := by
 refine TCall.toPureD (r := .sl .none 1 (dT (referrersL M.L p))) ?_ hK
 have hdl := dR_len M.L
 rw [refV_mk]
 refine TCall.w 33 [.tmp 4] Tryz.func77 rfl rfl rfl rfl (by kernel_rfl) rfl ?_
 simp -implicitDefEqProofs (disch := omega) only [seval, go_sem]
 have hbox : (S.push (.cells 66 [.sl .none 1 (gD fW), .sl .none 1 (gD kW), .sl .none 4 (dR M.L), .sl .none 1 (dT M.roots), .lit (w64 M.ver), .sl .none 2 (dC M.tc)])).objs S.n = .cells 66 [.sl .none 1 (gD fW), .sl .none 1 (gD kW), .sl .none 4 (dR M.L), .sl .none 1 (dT M.roots), .lit (w64 M.ver), .sl .none 2 (dC M.tc)] := push_self _ _
 refine loW.asRow 5 1 rfl (.inl rfl) ?_
 refine loW_inv (fun n T S' => ∃ (i k : Nat), n + i = M.L.length /\ T 1 = .lit (.string (st p)) /\ T 2 = .ptr S.n 0 /\ T 5 = .sl (.own k) 1 (dT (pathsOf ((M.L.take i).filter fun r => decide (p ∈ r.refs)))) /\ T 6 = .lit (.int .i64 (i : Int)) /\ S'.objs S.n = .cells 66 [.sl .none 1 (gD fW), .sl .none 1 (gD kW), .sl .none 4 (dR M.L), .sl .none 1 (dT M.roots), .lit (w64 M.ver), .sl .none 2 (dC M.tc)] /\ S'.objs k = .lin /\ S.n < k /\ k < S'.n /\ Keep S S') M.L.length ?_ ?_
 · exact ⟨0, S.n + 1, rfl, rfl, rfl, rfl, rfl, psh_old0 hbox (Nat.lt_succ_self _), push_self _ _, Nat.lt_succ_self _, Nat.lt_succ_self _, (Keep.push _ _).push' _⟩
 clear hbox
 rintro n T S2 ⟨i, k, hi, h1, h2, h5, h6, hbox, hk, hk1, hk2, hkp⟩
 have hpl := dT_len (pathsOf ((M.L.take i).filter fun r => decide (p ∈ r.refs)))
 have hpl2 : (pathsOf ((M.L.take i).filter fun r => decide (p ∈ r.refs))).length <= i := by
  rw [pathsOf, List.length_map]
  exact Nat.le_trans (List.length_filter_le _ _) (by rw [List.length_take]; omega)
 by_cases hc : i < M.L.length
 · have hx := dR_get hc
   have htk := take_succ_D M.L (i := i) default hc
   have hrr := hrl _ (getD_mem (d := default) hc)
   generalize M.L.getD i default = r at *
   rw [rowD_mk] at hx
   simp -implicitDefEqProofs (disch := omega) only [seval, go_sem, h1, h2, h5, h6, hbox, hdl, hx]
   refine c_godownref01_Has ?_
   by_cases hm : p ∈ r.refs
   · rw [decide_eq_true hm]
     simp -implicitDefEqProofs (disch := omega) only [seval, go_sem, h1, h2, h5, h6, hbox, hdl, hx, hk, hpl]
     refine ⟨n - 1, by omega, i + 1, S2.n, by omega, h1, h2, ?_, rfl, psh_old0 ((st_old _ (by omega)).trans hbox) (by show S.n < S2.n; omega), push_self _ _, by omega, Nat.lt_succ_self _, (hkp.set (by omega) _).push' _⟩
     rw [htk, List.filter_append, pathsOf, pathsOf, List.map_append, dT_app, List.filter_cons, if_pos (decide_eq_true hm)]; rfl
   · rw [decide_eq_false hm]
     simp -implicitDefEqProofs (disch := omega) only [seval, go_sem, h1, h2, h5, h6, hbox, hdl, hx, hk, hpl]
     refine ⟨n - 1, by omega, i + 1, k, by omega, h1, h2, ?_, rfl, hbox, hk, hk1, hk2, hkp⟩
     rw [htk, List.filter_append, List.filter_cons, if_neg (by rw [decide_eq_false hm]; simp), List.filter_nil, List.append_nil]
     exact h5
 · rw [List.take_of_length_le (by omega)] at h5
   rw [List.take_of_length_le (by omega)] at hpl2
   simp -implicitDefEqProofs (disch := omega) only [seval, go_sem, h1, h2, h5, h6, hbox, hdl]
   refine c_godownref01_Rise ?_ (by omega)
   simp -implicitDefEqProofs (disch := omega) only [seval, go_sem]
   exact ⟨_, .refl _, .slN _ _ _, hkp.push' _⟩
end
end Go.Proofs.YtoldjfappfbfbaaGreatDoor
namespace Go.Proofs.YtoldjfappfbfbaaGreatDoor
open Go.RowKit TL
theorem withoutL_app (a : List Bs) (q p : Bs) : withoutL (a ++ [q]) p = withoutL a p ++ (if q = p then [] else [q]) := by
 unfold withoutL
 rw [List.filter_append]
 by_cases h : q = p <;> simp [h]
section
variable {S : TS} {M : StM}
set_option maxRecDepth 8000 in
set_option maxHeartbeats 1000000 in
theorem c_r10_touch {l : List Bs} {g : Tag} {K : TV -> TS -> Prop} (hK : K (refV (touchM M l)) S) (hb : RefB M) (hll : l.length <= 1000000) : TCall env 73 [refV M, .sl g 1 (dT l)] S K := by
 refine TCall.toPureD (r := refV (touchM M l)) ?_ hK
 have htl := hb.tl
 have hdc := dC_len M.tc
 have hdl := dT_len l
 rw [refV_mk]
 refine TCall.w 30 [.cell 4 66] Tryz.func73 rfl rfl rfl rfl (by kernel_rfl) rfl ?_
 simp -implicitDefEqProofs (disch := omega) only [seval, go_sem, hdc]
 have hbox : ((S.push (.cells 66 [.sl .none 1 (gD fW), .sl .none 1 (gD kW), .sl .none 4 (dR M.L), .sl .none 1 (dT M.roots), .lit (w64 M.ver), .sl .none 2 (dC M.tc)])).push (.cells 66 [.sl .full 0 [], .sl .full 0 [], .sl .full 0 [], .sl .full 0 [], .lit (.int .u64 0), .sl .full 0 []])).objs S.n = .cells 66 [.sl .none 1 (gD fW), .sl .none 1 (gD kW), .sl .none 4 (dR M.L), .sl .none 1 (dT M.roots), .lit (w64 M.ver), .sl .none 2 (dC M.tc)] := psh_old0 (push_self _ _) (Nat.lt_succ_self _)
 have hres : ((S.push (.cells 66 [.sl .none 1 (gD fW), .sl .none 1 (gD kW), .sl .none 4 (dR M.L), .sl .none 1 (dT M.roots), .lit (w64 M.ver), .sl .none 2 (dC M.tc)])).push (.cells 66 [.sl .full 0 [], .sl .full 0 [], .sl .full 0 [], .sl .full 0 [], .lit (.int .u64 0), .sl .full 0 []])).objs (S.n + 1) = .cells 66 [.sl .full 0 [], .sl .full 0 [], .sl .full 0 [], .sl .full 0 [], .lit (.int .u64 0), .sl .full 0 []] := push_self (S.push _) _
 have hkp : Keep S ((S.push (.cells 66 [.sl .none 1 (gD fW), .sl .none 1 (gD kW), .sl .none 4 (dR M.L), .sl .none 1 (dT M.roots), .lit (w64 M.ver), .sl .none 2 (dC M.tc)])).push (.cells 66 [.sl .full 0 [], .sl .full 0 [], .sl .full 0 [], .sl .full 0 [], .lit (.int .u64 0), .sl .full 0 []])) := (Keep.push _ _).push' _
 have hn1 : ((S.push (.cells 66 [.sl .none 1 (gD fW), .sl .none 1 (gD kW), .sl .none 4 (dR M.L), .sl .none 1 (dT M.roots), .lit (w64 M.ver), .sl .none 2 (dC M.tc)])).push (.cells 66 [.sl .full 0 [], .sl .full 0 [], .sl .full 0 [], .sl .full 0 [], .lit (.int .u64 0), .sl .full 0 []])).n = S.n + 2 := rfl
 generalize (S.push (.cells 66 [.sl .none 1 (gD fW), .sl .none 1 (gD kW), .sl .none 4 (dR M.L), .sl .none 1 (dT M.roots), .lit (w64 M.ver), .sl .none 2 (dC M.tc)])).push (.cells 66 [.sl .full 0 [], .sl .full 0 [], .sl .full 0 [], .sl .full 0 [], .lit (.int .u64 0), .sl .full 0 []]) = S1 at *
 refine ⟨rfl, ?_⟩
 refine loW_inv (fun n T S' => ∃ (i k : Nat), n + i = l.length /\ T 1 = .sl g 1 (dT l) /\ T 2 = .ptr S.n 0 /\ T 4 = .ptr (S.n + 1) 0 /\ T 5 = .sl (.own k) 2 (dC (M.tc ++ (l.take i).map fun p => (p, M.ver))) /\ T 6 = .lit (.int .i64 (i : Int)) /\ S'.objs S.n = .cells 66 [.sl .none 1 (gD fW), .sl .none 1 (gD kW), .sl .none 4 (dR M.L), .sl .none 1 (dT M.roots), .lit (w64 M.ver), .sl .none 2 (dC M.tc)] /\ S'.objs (S.n + 1) = .cells 66 [.sl .full 0 [], .sl .full 0 [], .sl .full 0 [], .sl .full 0 [], .lit (.int .u64 0), .sl .full 0 []] /\ S'.objs k = .lin /\ S.n + 1 < k /\ k < S'.n /\ Keep S S') l.length ?_ ?_
 · refine ⟨0, S1.n, rfl, rfl, rfl, rfl, ?_, rfl, psh_old0 hbox (by omega), psh_old0 hres (by omega), push_self _ _, by omega, Nat.lt_succ_self _, hkp.push' _⟩
   rw [List.take_zero, List.map_nil, List.append_nil]
   first | rfl | exact congrArg (fun k => TV.sl (.own k) 2 (dC M.tc)) hn1.symm
 clear hbox hres hkp
 rintro n T S2 ⟨i, k, hi, h1, h2, h4, h5, h6, hbox, hres, hk, hk1, hk2, hkp⟩
 have hpl : (dC (M.tc ++ (l.take i).map fun p => (p, M.ver))).length = M.tc.length + i := by rw [dC_len, List.length_append, List.length_map, List.length_take]; omega
 by_cases hc : i < l.length
 · have hx := dT_get hc
   have htk := take_succ_D l (i := i) [] hc
   generalize l.getD i [] = q at *
   simp -implicitDefEqProofs (disch := omega) only [seval, go_sem, h1, h2, h4, h5, h6, hbox, hdl, hx, hk, hpl]
   refine drW_at [(0, 0), (1, 0), (2, 0), (3, 0), (4, 0), (5, 0), (6, 0), (7, 0), (8, 1), (9, 2), (10, 0)] followsN (by kernel_rfl) ?_
   simp -implicitDefEqProofs (disch := omega) only [seval, go_sem, h1, h2, h4, h5, h6, hbox, hdl, hx, hk, hpl]
   refine ⟨rfl, n - 1, by omega, i + 1, S2.n, by omega, h1, h2, h4, ?_, rfl, psh_old0 ((st_old _ (by omega)).trans hbox) (by show S.n < S2.n; omega), psh_old0 ((st_old _ (by omega)).trans hres) (by show S.n + 1 < S2.n; omega), push_self _ _, by omega, Nat.lt_succ_self _, (hkp.set (by omega) _).push' _⟩
   rw [htk, List.map_append, ← List.append_assoc]
   simp only [dC_app]; rfl
 · rw [List.take_of_length_le (by omega)] at h5
   simp -implicitDefEqProofs (disch := omega) only [seval, go_sem, h1, h2, h4, h5, h6, hbox, hres, hdl]
   refine ⟨_, resCell (id := S.n + 1) h4 ti66 (TS.set_same' _ _ _) rfl rfl, ?_⟩
   refine ⟨refV (touchM M l), ?_, ren_refV _ _ _, (hkp.set (Nat.le_refl _) _).set (by omega) _⟩
   exact .aggF (.cons (.refl _) (.cons (.refl _) (.cons (.refl _) (.cons (.refl _) (.cons (.refl _) (.cons (.sl _ _ _) .nil))))))
set_option maxRecDepth 8000 in
set_option maxHeartbeats 1000000 in
theorem c_r10_fits {r : RowM} {K : TV -> TS -> Prop} (hK : K (.lit (.bool (fitsR r))) S) (hb : RowB r) : TCall env 71 [refV M, rowN r] S K := by
 refine TCall.toPure (r := .lit (.bool (fitsR r))) ?_ hK
 rw [refV_mk, rowN_mk]
 refine TCall.w 27 [.tmp 4] Tryz.func71 rfl rfl rfl rfl (by kernel_rfl) rfl ?_
 simp -implicitDefEqProofs (disch := omega) only [seval, go_sem]
 have hb2 : ((S.push (.cells 66 [.sl .none 1 (gD fW), .sl .none 1 (gD kW), .sl .none 4 (dR M.L), .sl .none 1 (dT M.roots), .lit (w64 M.ver), .sl .none 2 (dC M.tc)])).push (.cells 44 [.lit (.string (st r.path)), .lit (.string (st r.name)), .sl .none 1 (dB r.arc), .sl .none 1 (dT r.refs)])).objs (S.n + 1) = .cells 44 [.lit (.string (st r.path)), .lit (.string (st r.name)), .sl .none 1 (dB r.arc), .sl .none 1 (dT r.refs)] := push_self (S.push _) _
 refine c_godownref07_Make ?_ hb.rs hb.nm hb.ar hb.rl
 unfold mkV fitsR
 by_cases h1 : rightS r.name = true
 · rw [if_neg (by rw [h1]; simp)]
   by_cases h2 : refsOk r.refs = true
   · rw [if_neg (by rw [h2]; simp), h1, h2]
     simp -implicitDefEqProofs (disch := omega) only [seval, go_sem, hb2]
     exact ⟨.lit _, (Keep.push _ _).push' _⟩
   · have h2' : refsOk r.refs = false := by simpa using h2
     rw [if_pos h2', h2']
     simp -implicitDefEqProofs (disch := omega) only [seval, go_sem, hb2]
     refine ⟨?_, (Keep.push _ _).push' _⟩
     rw [Bool.and_false, Bool.false_and]; exact .lit _
 · have h1' : rightS r.name = false := by simpa using h1
   rw [if_pos h1', h1']
   simp -implicitDefEqProofs (disch := omega) only [seval, go_sem, hb2]
   refine ⟨?_, (Keep.push _ _).push' _⟩
   rw [Bool.false_and, Bool.false_and]; exact .lit _
set_option maxRecDepth 8000 in
set_option maxHeartbeats 1000000 in
theorem c_r10_without {l : List Bs} {p : Bs} {g : Tag} {K : TV -> TS -> Prop} (hK : K (.sl .none 1 (dT (withoutL l p))) S) (hll : l.length <= 1000000) : TCall env 76 [.sl g 1 (dT l), .lit (.string (st p))] S K := by
 refine TCall.toPureD (r := .sl .none 1 (dT (withoutL l p))) ?_ hK
 have hdl := dT_len l
 refine TCall.w 27 [.tmp 4] Tryz.func76 rfl rfl rfl rfl (by kernel_rfl) rfl ?_
 simp -implicitDefEqProofs (disch := omega) only [seval, go_sem]
 refine loW.asRow 5 1 rfl (.inl rfl) ?_
 refine loW_inv (fun n T S' => ∃ (i k : Nat), n + i = l.length /\ T 0 = .sl g 1 (dT l) /\ T 1 = .lit (.string (st p)) /\ T 5 = .sl (.own k) 1 (dT (withoutL (l.take i) p)) /\ T 6 = .lit (.int .i64 (i : Int)) /\ S'.objs k = .lin /\ S.n <= k /\ k < S'.n /\ Keep S S') l.length ?_ ?_
 · exact ⟨0, S.n, rfl, rfl, rfl, rfl, rfl, push_self _ _, Nat.le_refl _, Nat.lt_succ_self _, Keep.push _ _⟩
 rintro n T S2 ⟨i, k, hi, h0, h1, h5, h6, hk, hk1, hk2, hkp⟩
 have hpl := dT_len (withoutL (l.take i) p)
 have hpl2 : (withoutL (l.take i) p).length <= i := Nat.le_trans (List.length_filter_le _ _) (by rw [List.length_take]; omega)
 by_cases hc : i < l.length
 · have hx := dT_get hc
   have htk := take_succ_D l (i := i) [] hc
   generalize l.getD i [] = q at *
   simp -implicitDefEqProofs (disch := omega) only [seval, go_sem, h0, h1, h5, h6, hdl, hx]
   refine cdK_d (fun hq => ?_) (fun hq => ?_)
   · simp -implicitDefEqProofs (disch := omega) only [seval, go_sem, h0, h1, h5, h6, hdl, hx, hk, hpl]
     refine ⟨n - 1, by omega, i + 1, S2.n, by omega, h0, h1, ?_, rfl, push_self _ _, by have := hkp.1; omega, Nat.lt_succ_self _, (hkp.set (by omega) _).push' _⟩
     rw [htk, withoutL_app, if_neg hq, dT_app]; rfl
   · simp -implicitDefEqProofs (disch := omega) only [seval, go_sem, h0, h1, h5, h6, hdl, hx, hk, hpl]
     refine ⟨n - 1, by omega, i + 1, k, by omega, h0, h1, ?_, rfl, hk, hk1, hk2, hkp⟩
     rw [htk, withoutL_app, if_pos (Classical.not_not.1 hq), List.append_nil]
     exact h5
 · rw [List.take_of_length_le (by omega)] at h5
   simp -implicitDefEqProofs (disch := omega) only [seval, go_sem, h0, h1, h5, h6, hdl]
   exact ⟨_, .refl _, .slN _ _ _, hkp⟩
set_option maxRecDepth 8000 in
set_option maxHeartbeats 1000000 in
theorem c_r10_Root {p : Bs} {K : TV -> TS -> Prop} (hK : K (.tup [refV (rootM M p).1, .lit (.int .i64 (rootM M p).2)]) S) (hb : RefB M) (hrl : M.roots.length <= 16) : TCall env 31 [refV M, .lit (.string (st p))] S K := by
 refine TCall.toPureD (r := .tup [refV (rootM M p).1, .lit (.int .i64 (rootM M p).2)]) ?_ hK
 have hdr := dT_len M.roots
 rw [refV_mk M]
 refine TCall.w 37 [.cell 4 66, .tmp 5] Tryz.func31 rfl rfl rfl rfl (by kernel_rfl) rfl ?_
 simp -implicitDefEqProofs (disch := omega) only [seval, go_sem]
 have hbox : ((S.push (.cells 66 [.sl .none 1 (gD fW), .sl .none 1 (gD kW), .sl .none 4 (dR M.L), .sl .none 1 (dT M.roots), .lit (w64 M.ver), .sl .none 2 (dC M.tc)])).push (.cells 66 [.sl .full 0 [], .sl .full 0 [], .sl .full 0 [], .sl .full 0 [], .lit (.int .u64 0), .sl .full 0 []])).objs S.n = .cells 66 [.sl .none 1 (gD fW), .sl .none 1 (gD kW), .sl .none 4 (dR M.L), .sl .none 1 (dT M.roots), .lit (w64 M.ver), .sl .none 2 (dC M.tc)] := psh_old0 (push_self _ _) (Nat.lt_succ_self _)
 have hres : ((S.push (.cells 66 [.sl .none 1 (gD fW), .sl .none 1 (gD kW), .sl .none 4 (dR M.L), .sl .none 1 (dT M.roots), .lit (w64 M.ver), .sl .none 2 (dC M.tc)])).push (.cells 66 [.sl .full 0 [], .sl .full 0 [], .sl .full 0 [], .sl .full 0 [], .lit (.int .u64 0), .sl .full 0 []])).objs (S.n + 1) = .cells 66 [.sl .full 0 [], .sl .full 0 [], .sl .full 0 [], .sl .full 0 [], .lit (.int .u64 0), .sl .full 0 []] := push_self (S.push _) _
 have hkp : Keep S ((S.push (.cells 66 [.sl .none 1 (gD fW), .sl .none 1 (gD kW), .sl .none 4 (dR M.L), .sl .none 1 (dT M.roots), .lit (w64 M.ver), .sl .none 2 (dC M.tc)])).push (.cells 66 [.sl .full 0 [], .sl .full 0 [], .sl .full 0 [], .sl .full 0 [], .lit (.int .u64 0), .sl .full 0 []])) := (Keep.push _ _).push' _
 have hn1 : ((S.push (.cells 66 [.sl .none 1 (gD fW), .sl .none 1 (gD kW), .sl .none 4 (dR M.L), .sl .none 1 (dT M.roots), .lit (w64 M.ver), .sl .none 2 (dC M.tc)])).push (.cells 66 [.sl .full 0 [], .sl .full 0 [], .sl .full 0 [], .sl .full 0 [], .lit (.int .u64 0), .sl .full 0 []])).n = S.n + 2 := rfl
 generalize (S.push (.cells 66 [.sl .none 1 (gD fW), .sl .none 1 (gD kW), .sl .none 4 (dR M.L), .sl .none 1 (dT M.roots), .lit (w64 M.ver), .sl .none 2 (dC M.tc)])).push (.cells 66 [.sl .full 0 [], .sl .full 0 [], .sl .full 0 [], .sl .full 0 [], .lit (.int .u64 0), .sl .full 0 []]) = S1 at *
 rw [← refV_mk]
 refine c_r10_Has ?_ hb
 unfold rootM
 by_cases h1 : hasP M.L p = false
 · rw [if_pos h1, h1]
   simp -implicitDefEqProofs (disch := omega) only [seval, go_sem, hbox, hres]
   refine ⟨_, resCell (id := S.n + 1) rfl ti66 (TS.set_same' _ _ _) rfl rfl, ?_⟩
   exact ⟨_, .refl _, .tupF (.cons (ren_refV _ _ M) (.cons (.lit _) .nil)), hkp.set (by omega) _⟩
 rw [if_neg h1]
 have h1' : hasP M.L p = true := by simpa using h1
 rw [h1']
 simp -implicitDefEqProofs (disch := omega) only [seval, go_sem, hbox, hres]
 refine c_godownref01_Has ?_
 by_cases h2 : p ∈ M.roots
 · rw [if_pos h2, decide_eq_true h2]
   simp -implicitDefEqProofs (disch := omega) only [seval, go_sem, hbox, hres]
   refine ⟨_, resCell (id := S.n + 1) rfl ti66 (TS.set_same' _ _ _) rfl rfl, ?_⟩
   exact ⟨_, .refl _, .tupF (.cons (ren_refV _ _ M) (.cons (.lit _) .nil)), hkp.set (by omega) _⟩
 rw [if_neg h2, decide_eq_false h2]
 by_cases h3 : 16 <= M.roots.length
 · rw [if_pos h3]
   simp -implicitDefEqProofs (disch := omega) only [seval, go_sem, hbox, hres, hdr]
   refine ⟨_, resCell (id := S.n + 1) rfl ti66 (TS.set_same' _ _ _) rfl rfl, ?_⟩
   exact ⟨_, .refl _, .tupF (.cons (ren_refV _ _ M) (.cons (.lit _) .nil)), hkp.set (by omega) _⟩
 rw [if_neg h3]
 simp -implicitDefEqProofs (disch := omega) only [seval, go_sem, hbox, hres, hdr]
 rw [show dT M.roots ++ [D.lit (.string (st p))] = dT (M.roots ++ [p]) from by rw [dT_app]; rfl]
 refine c_godownref01_Rise ?_ (by rw [List.length_append]; simp; omega)
 have hrise := riseL_len (M.roots ++ [p])
 rw [List.length_append, List.length_singleton] at hrise
 have hb2 : ∀ o o' o'', (((S1.push o).push o').push o'').objs S.n = .cells 66 [.sl .none 1 (gD fW), .sl .none 1 (gD kW), .sl .none 4 (dR M.L), .sl .none 1 (dT M.roots), .lit (w64 M.ver), .sl .none 2 (dC M.tc)] := fun o o' o'' => psh_old0 (psh_old0 (psh_old0 hbox (by omega)) (by show S.n < S1.n + 1; omega)) (by show S.n < S1.n + 2; omega)
 have hr2 : ∀ o o' o'', (((S1.push o).push o').push o'').objs (S.n + 1) = .cells 66 [.sl .full 0 [], .sl .full 0 [], .sl .full 0 [], .sl .full 0 [], .lit (.int .u64 0), .sl .full 0 []] := fun o o' o'' => psh_old0 (psh_old0 (psh_old0 hres (by omega)) (by show S.n + 1 < S1.n + 1; omega)) (by show S.n + 1 < S1.n + 2; omega)
 have hkp2 : ∀ o o' o'', Keep S (((S1.push o).push o').push o'') := fun o o' o'' => ((hkp.push' o).push' o').push' o''
 have hn2 : ∀ o o' o'', (((S1.push o).push o').push o'').n = S1.n + 3 := fun _ _ _ => rfl
 generalize riseL (M.roots ++ [p]) = rr at *
 simp -implicitDefEqProofs (disch := omega) only [seval, go_sem, hb2, hr2]
 refine .drop (b := [refV ⟨M.L, rr, M.ver + 1#64, M.tc⟩, .sl .full 1 (dT [p])]) (.cons (.aggF (.cons (.refl _) (.cons (.refl _) (.cons (.refl _) (.cons (.sl _ _ _) (.cons (.refl _) (.cons (.refl _) .nil))))))) (.cons (.refl _) .nil)) ?_
 refine c_r10_touch ?_ ⟨hb.ll, by show rr.length <= _; omega, hb.tl⟩ (by simp)
 rw [refV_mk]
 generalize hS9 : TS.push _ _ = S9
 have hR9 : S9.objs (S.n + 1) = .cells 66 [.sl .full 0 [], .sl .full 0 [], .sl .full 0 [], .sl .full 0 [], .lit (.int .u64 0), .sl .full 0 []] := by rw [← hS9]; exact psh_old0 (psh_old0 (psh_old0 ((st_old _ (by omega)).trans ((st_old _ (by omega)).trans hres)) (by show S.n + 1 < S1.n; omega)) (by show S.n + 1 < S1.n + 1; omega)) (by show S.n + 1 < S1.n + 2; omega)
 have hK9 : Keep S S9 := by rw [← hS9]; exact ((((hkp.set (Nat.le_refl _) _).set (Nat.le_refl _) _).push' _).push' _).push' _
 clear hS9
 simp -implicitDefEqProofs (disch := omega) only [seval, go_sem, hR9]
 refine ⟨_, resCell (id := S.n + 1) rfl ti66 (TS.set_same' _ _ _) rfl rfl, ?_⟩
 exact ⟨_, .refl _, .tupF (.cons (ren_refV _ _ _) (.cons (.lit _) .nil)), hK9.set (by omega) _⟩
set_option maxRecDepth 8000 in
set_option maxHeartbeats 1000000 in
theorem c_r10_Unroot {p : Bs} {K : TV -> TS -> Prop} (hK : K (.tup [refV (unrootM M p).1, .lit (.int .i64 (unrootM M p).2)]) S) (hb : RefB M) (hrl : M.roots.length <= 16) : TCall env 98 [refV M, .lit (.string (st p))] S K := by
 refine TCall.toPureD (r := .tup [refV (unrootM M p).1, .lit (.int .i64 (unrootM M p).2)]) ?_ hK
 have hdr := dT_len M.roots
 rw [refV_mk M]
 refine TCall.w 25 [.cell 4 66, .tmp 5] Tryz.func98 rfl rfl rfl rfl (by kernel_rfl) rfl ?_
 simp -implicitDefEqProofs (disch := omega) only [seval, go_sem]
 have hbox : ((S.push (.cells 66 [.sl .none 1 (gD fW), .sl .none 1 (gD kW), .sl .none 4 (dR M.L), .sl .none 1 (dT M.roots), .lit (w64 M.ver), .sl .none 2 (dC M.tc)])).push (.cells 66 [.sl .full 0 [], .sl .full 0 [], .sl .full 0 [], .sl .full 0 [], .lit (.int .u64 0), .sl .full 0 []])).objs S.n = .cells 66 [.sl .none 1 (gD fW), .sl .none 1 (gD kW), .sl .none 4 (dR M.L), .sl .none 1 (dT M.roots), .lit (w64 M.ver), .sl .none 2 (dC M.tc)] := psh_old0 (push_self _ _) (Nat.lt_succ_self _)
 have hres : ((S.push (.cells 66 [.sl .none 1 (gD fW), .sl .none 1 (gD kW), .sl .none 4 (dR M.L), .sl .none 1 (dT M.roots), .lit (w64 M.ver), .sl .none 2 (dC M.tc)])).push (.cells 66 [.sl .full 0 [], .sl .full 0 [], .sl .full 0 [], .sl .full 0 [], .lit (.int .u64 0), .sl .full 0 []])).objs (S.n + 1) = .cells 66 [.sl .full 0 [], .sl .full 0 [], .sl .full 0 [], .sl .full 0 [], .lit (.int .u64 0), .sl .full 0 []] := push_self (S.push _) _
 have hkp : Keep S ((S.push (.cells 66 [.sl .none 1 (gD fW), .sl .none 1 (gD kW), .sl .none 4 (dR M.L), .sl .none 1 (dT M.roots), .lit (w64 M.ver), .sl .none 2 (dC M.tc)])).push (.cells 66 [.sl .full 0 [], .sl .full 0 [], .sl .full 0 [], .sl .full 0 [], .lit (.int .u64 0), .sl .full 0 []])) := (Keep.push _ _).push' _
 have hn1 : ((S.push (.cells 66 [.sl .none 1 (gD fW), .sl .none 1 (gD kW), .sl .none 4 (dR M.L), .sl .none 1 (dT M.roots), .lit (w64 M.ver), .sl .none 2 (dC M.tc)])).push (.cells 66 [.sl .full 0 [], .sl .full 0 [], .sl .full 0 [], .sl .full 0 [], .lit (.int .u64 0), .sl .full 0 []])).n = S.n + 2 := rfl
 generalize (S.push (.cells 66 [.sl .none 1 (gD fW), .sl .none 1 (gD kW), .sl .none 4 (dR M.L), .sl .none 1 (dT M.roots), .lit (w64 M.ver), .sl .none 2 (dC M.tc)])).push (.cells 66 [.sl .full 0 [], .sl .full 0 [], .sl .full 0 [], .sl .full 0 [], .lit (.int .u64 0), .sl .full 0 []]) = S1 at *
 refine c_godownref01_Has ?_
 unfold unrootM
 by_cases h2 : p ∈ M.roots
 rotate_left
 · rw [if_neg h2, decide_eq_false h2]
   simp -implicitDefEqProofs (disch := omega) only [seval, go_sem, hbox, hres]
   refine ⟨_, resCell (id := S.n + 1) rfl ti66 (TS.set_same' _ _ _) rfl rfl, ?_⟩
   exact ⟨_, .refl _, .tupF (.cons (ren_refV _ _ M) (.cons (.lit _) .nil)), hkp.set (by omega) _⟩
 rw [if_pos h2, decide_eq_true h2]
 simp -implicitDefEqProofs (disch := omega) only [seval, go_sem, hbox, hres]
 refine c_r10_without ?_ (by omega)
 have hwl : (withoutL M.roots p).length <= 16 := Nat.le_trans (List.length_filter_le _ _) hrl
 generalize withoutL M.roots p = rr at *
 simp -implicitDefEqProofs (disch := omega) only [seval, go_sem, hbox, hres]
 refine c_r10_touch (M := ⟨M.L, rr, M.ver + 1#64, M.tc⟩) (l := [p]) ?_ ⟨hb.ll, by show rr.length <= _; omega, hb.tl⟩ (by simp)
 rw [refV_mk]
 generalize hS9 : TS.set _ _ _ = S9
 have hR9 : S9.objs (S.n + 1) = .cells 66 [.sl .full 0 [], .sl .full 0 [], .sl .full 0 [], .sl .full 0 [], .lit (.int .u64 0), .sl .full 0 []] := by rw [← hS9]; exact (st_old _ (by omega)).trans ((st_old _ (by omega)).trans hres)
 have hK9 : Keep S S9 := by rw [← hS9]; exact (hkp.set (Nat.le_refl _) _).set (Nat.le_refl _) _
 clear hS9
 simp -implicitDefEqProofs (disch := omega) only [seval, go_sem, hR9]
 refine ⟨_, resCell (id := S.n + 1) rfl ti66 (TS.set_same' _ _ _) rfl rfl, ?_⟩
 exact ⟨_, .refl _, .tupF (.cons (ren_refV _ _ _) (.cons (.lit _) .nil)), hK9.set (by omega) _⟩
end
end Go.Proofs.YtoldjfappfbfbaaGreatDoor
namespace Go.Proofs.YtoldjfappfbfbaaGreatDoor
open Go.RowKit TL
theorem putF_drop2 {L : List RowM} {l fr : List RowM} {i : Nat} (hi : i < l.length) : putF L (l.drop i) fr = if fitsR (l.getD i default) = false then (4, fr)
 else if hasP (L ++ fr) (l.getD i default).path = true then putF L (l.drop (i + 1)) fr
 else if (l.getD i default).refs.all (hasP (L ++ fr)) = false then (6, fr)
 else if 64 <= (L ++ fr).length then (3, fr)
 else putF L (l.drop (i + 1)) (fr ++ [l.getD i default]) := by
 rw [drop_at default hi]
 rfl
theorem touch_len : ∀ {fr : List RowM}, (∀ r ∈ fr, r.refs.length <= 255) -> (fr.flatMap rowTouch).length <= 256 * fr.length
 | [], _ => Nat.le_refl _
 | r :: fr, h => by
  have h1 := touch_len (fr := fr) fun x hx => h x (List.mem_cons_of_mem _ hx)
  have h2 := h r (by simp)
  rw [List.flatMap_cons, List.length_append, List.length_cons, rowTouch, List.length_cons]
  omega
theorem psh4 {S : TS} {a b c d o : TObj} {id : Nat} (h : S.objs id = o) (hi : id < S.n) : ((((S.push a).push b).push c).push d).objs id = o := psh_old0 (psh_old0 (psh_old0 (psh_old0 h hi) (Nat.lt_succ_of_lt hi)) (Nat.lt_succ_of_lt (Nat.lt_succ_of_lt hi))) (Nat.lt_succ_of_lt (Nat.lt_succ_of_lt (Nat.lt_succ_of_lt hi)))
section
variable {S : TS} {M : StM}
set_option maxRecDepth 8000 in
set_option maxHeartbeats 4000000 in
theorem c_r10_Put {l : List RowM} {g : Tag} {K : TV -> TS -> Prop} (hK : K (.tup [refV (putM M l).1, .lit (.int .i64 (putM M l).2)]) S) (hb : RefB M) (hML : M.L.length <= 64) (hl : l.length <= 1000) (hrb : ∀ r ∈ l, RowB r /\ r.refs.length <= 255) : TCall env 29 [refV M, .sl g 4 (dR l)] S K := by
 refine TCall.toPureD (r := .tup [refV (putM M l).1, .lit (.int .i64 (putM M l).2)]) ?_ hK
 have hdr := dR_len M.L
 have hdl := dR_len l
 rw [refV_mk M]
 refine TCall.w 88 [.cell 4 66, .tmp 5] Tryz.func29 rfl rfl rfl rfl (by kernel_rfl) rfl ?_
 simp -implicitDefEqProofs (disch := omega) only [seval, go_sem, hdr]
 refine ⟨rfl, ?_⟩
 have hbox : ((((S.push (.cells 66 [.sl .none 1 (gD fW), .sl .none 1 (gD kW), .sl .none 4 (dR M.L), .sl .none 1 (dT M.roots), .lit (w64 M.ver), .sl .none 2 (dC M.tc)])).push (.cells 66 [.sl .full 0 [], .sl .full 0 [], .sl .full 0 [], .sl .full 0 [], .lit (.int .u64 0), .sl .full 0 []])).push (.cells 66 [.sl .none 1 (gD fW), .sl .none 1 (gD kW), .sl (.own (S.n + 3)) 4 (dR M.L), .sl .none 1 (dT M.roots), .lit (w64 M.ver), .sl .none 2 (dC M.tc)])).push .lin).objs S.n = .cells 66 [.sl .none 1 (gD fW), .sl .none 1 (gD kW), .sl .none 4 (dR M.L), .sl .none 1 (dT M.roots), .lit (w64 M.ver), .sl .none 2 (dC M.tc)] := psh_old0 (psh_old0 (psh_old0 (push_self _ _) (Nat.lt_succ_self _)) (by show S.n < S.n + 2; omega)) (by show S.n < S.n + 3; omega)
 have hres : ((((S.push (.cells 66 [.sl .none 1 (gD fW), .sl .none 1 (gD kW), .sl .none 4 (dR M.L), .sl .none 1 (dT M.roots), .lit (w64 M.ver), .sl .none 2 (dC M.tc)])).push (.cells 66 [.sl .full 0 [], .sl .full 0 [], .sl .full 0 [], .sl .full 0 [], .lit (.int .u64 0), .sl .full 0 []])).push (.cells 66 [.sl .none 1 (gD fW), .sl .none 1 (gD kW), .sl (.own (S.n + 3)) 4 (dR M.L), .sl .none 1 (dT M.roots), .lit (w64 M.ver), .sl .none 2 (dC M.tc)])).push .lin).objs (S.n + 1) = .cells 66 [.sl .full 0 [], .sl .full 0 [], .sl .full 0 [], .sl .full 0 [], .lit (.int .u64 0), .sl .full 0 []] := psh_old0 (psh_old0 (push_self (S.push _) _) (by show S.n + 1 < S.n + 2; omega)) (by show S.n + 1 < S.n + 3; omega)
 have htt : ((((S.push (.cells 66 [.sl .none 1 (gD fW), .sl .none 1 (gD kW), .sl .none 4 (dR M.L), .sl .none 1 (dT M.roots), .lit (w64 M.ver), .sl .none 2 (dC M.tc)])).push (.cells 66 [.sl .full 0 [], .sl .full 0 [], .sl .full 0 [], .sl .full 0 [], .lit (.int .u64 0), .sl .full 0 []])).push (.cells 66 [.sl .none 1 (gD fW), .sl .none 1 (gD kW), .sl (.own (S.n + 3)) 4 (dR M.L), .sl .none 1 (dT M.roots), .lit (w64 M.ver), .sl .none 2 (dC M.tc)])).push .lin).objs (S.n + 2) = .cells 66 [.sl .none 1 (gD fW), .sl .none 1 (gD kW), .sl (.own (S.n + 3)) 4 (dR M.L), .sl .none 1 (dT M.roots), .lit (w64 M.ver), .sl .none 2 (dC M.tc)] := psh_old0 (push_self ((S.push _).push _) _) (by show S.n + 2 < S.n + 3; omega)
 have hlin : ((((S.push (.cells 66 [.sl .none 1 (gD fW), .sl .none 1 (gD kW), .sl .none 4 (dR M.L), .sl .none 1 (dT M.roots), .lit (w64 M.ver), .sl .none 2 (dC M.tc)])).push (.cells 66 [.sl .full 0 [], .sl .full 0 [], .sl .full 0 [], .sl .full 0 [], .lit (.int .u64 0), .sl .full 0 []])).push (.cells 66 [.sl .none 1 (gD fW), .sl .none 1 (gD kW), .sl (.own (S.n + 3)) 4 (dR M.L), .sl .none 1 (dT M.roots), .lit (w64 M.ver), .sl .none 2 (dC M.tc)])).push .lin).objs (S.n + 3) = .lin := push_self (((S.push _).push _).push _) _
 have hkp : Keep S ((((S.push (.cells 66 [.sl .none 1 (gD fW), .sl .none 1 (gD kW), .sl .none 4 (dR M.L), .sl .none 1 (dT M.roots), .lit (w64 M.ver), .sl .none 2 (dC M.tc)])).push (.cells 66 [.sl .full 0 [], .sl .full 0 [], .sl .full 0 [], .sl .full 0 [], .lit (.int .u64 0), .sl .full 0 []])).push (.cells 66 [.sl .none 1 (gD fW), .sl .none 1 (gD kW), .sl (.own (S.n + 3)) 4 (dR M.L), .sl .none 1 (dT M.roots), .lit (w64 M.ver), .sl .none 2 (dC M.tc)])).push .lin) := (((Keep.push _ _).push' _).push' _).push' _
 have hn1 : ((((S.push (.cells 66 [.sl .none 1 (gD fW), .sl .none 1 (gD kW), .sl .none 4 (dR M.L), .sl .none 1 (dT M.roots), .lit (w64 M.ver), .sl .none 2 (dC M.tc)])).push (.cells 66 [.sl .full 0 [], .sl .full 0 [], .sl .full 0 [], .sl .full 0 [], .lit (.int .u64 0), .sl .full 0 []])).push (.cells 66 [.sl .none 1 (gD fW), .sl .none 1 (gD kW), .sl (.own (S.n + 3)) 4 (dR M.L), .sl .none 1 (dT M.roots), .lit (w64 M.ver), .sl .none 2 (dC M.tc)])).push .lin).n = S.n + 4 := rfl
 generalize (((S.push (.cells 66 [.sl .none 1 (gD fW), .sl .none 1 (gD kW), .sl .none 4 (dR M.L), .sl .none 1 (dT M.roots), .lit (w64 M.ver), .sl .none 2 (dC M.tc)])).push (.cells 66 [.sl .full 0 [], .sl .full 0 [], .sl .full 0 [], .sl .full 0 [], .lit (.int .u64 0), .sl .full 0 []])).push (.cells 66 [.sl .none 1 (gD fW), .sl .none 1 (gD kW), .sl (.own (S.n + 3)) 4 (dR M.L), .sl .none 1 (dT M.roots), .lit (w64 M.ver), .sl .none 2 (dC M.tc)])).push .lin = S1 at *
 refine loW.asRow 7 1 rfl (.inl rfl) ?_
 refine loW.asRow 8 1 rfl (.inl rfl) ?_
 refine loW_inv (fun n T S' => ∃ (i kL k7 k8 : Nat) (fr : List RowM), n + i = l.length /\ putF M.L (l.drop i) fr = putF M.L l [] /\ fr.length <= i /\ (∀ r ∈ fr, r.refs.length <= 255) /\ T 1 = .sl g 4 (dR l) /\ T 2 = .ptr S.n 0 /\ T 4 = .ptr (S.n + 1) 0 /\ T 6 = .ptr (S.n + 2) 0 /\ T 7 = .sl (.own k7) 1 (dT (pathsOf fr)) /\ T 8 = .sl (.own k8) 1 (dT (fr.flatMap rowTouch)) /\ T 9 = .lit (.int .i64 (i : Int)) ∧
  S'.objs S.n = .cells 66 [.sl .none 1 (gD fW), .sl .none 1 (gD kW), .sl .none 4 (dR M.L), .sl .none 1 (dT M.roots), .lit (w64 M.ver), .sl .none 2 (dC M.tc)] /\ S'.objs (S.n + 1) = .cells 66 [.sl .full 0 [], .sl .full 0 [], .sl .full 0 [], .sl .full 0 [], .lit (.int .u64 0), .sl .full 0 []] /\ S'.objs (S.n + 2) = .cells 66 [.sl .none 1 (gD fW), .sl .none 1 (gD kW), .sl (.own kL) 4 (dR (M.L ++ fr)), .sl .none 1 (dT M.roots), .lit (w64 M.ver), .sl .none 2 (dC M.tc)] /\ S'.objs kL = .lin /\ S'.objs k7 = .lin /\ S'.objs k8 = .lin /\ kL ≠ k7 /\ kL ≠ k8 /\ k7 ≠ k8 /\ S.n + 2 < kL /\ S.n + 2 < k7 /\ S.n + 2 < k8 /\ kL < S'.n /\ k7 < S'.n /\ k8 < S'.n /\ Keep S S') l.length ?_ ?_
 · refine ⟨0, S.n + 3, S1.n, S1.n + 1, [], rfl, rfl, Nat.le_refl _, (fun r h => by cases h), rfl, rfl, rfl, rfl, rfl, rfl, rfl, psh_old0 (psh_old0 hbox (by omega)) (by show S.n < S1.n + 1; omega), psh_old0 (psh_old0 hres (by omega)) (by show S.n + 1 < S1.n + 1; omega), ?_, psh_old0 (psh_old0 hlin (by omega)) (by show S.n + 3 < S1.n + 1; omega), psh_old0 (push_self _ _) (Nat.lt_succ_self _), push_self (S1.push _) _, by omega, by omega, by omega, by omega, by omega, by omega, by show S.n + 3 < S1.n + 2; omega, by show S1.n < S1.n + 2; omega, by show S1.n + 1 < S1.n + 2; omega, (hkp.push' _).push' _⟩
   rw [List.append_nil]
   exact psh_old0 (psh_old0 htt (by omega)) (by show S.n + 2 < S1.n + 1; omega)
 clear hbox hres htt hlin hkp
 rintro n T S2 ⟨i, kL, k7, k8, fr, hi, hpf, hfl, hfr, e1, e2, e4, e6, e7, e8, e9, hbox, hres, htt, hkL, hk7, hk8, n1, n2, n3, a1, a2, a3, b1, b2, b3, hkp⟩
 have hdf : (dR (M.L ++ fr)).length = M.L.length + fr.length := by rw [dR_len, List.length_append]
 have hfl2 : (M.L ++ fr).length <= 1064 := by rw [List.length_append]; omega
 have hd7 : (dT (pathsOf fr)).length = fr.length := by rw [dT_len, pathsOf, List.length_map]
 have hd8 := dT_len (fr.flatMap rowTouch)
 have htl8 := touch_len hfr
 by_cases hc : i < l.length
 · rw [putF_drop2 hc] at hpf
   have hx := dR_get hc
   obtain ⟨hrB, hr255⟩ := hrb _ (getD_mem (d := default) hc)
   generalize l.getD i default = r at *
   rw [rowD_mk] at hx
   have ho : ∀ {id o}, S2.objs id = o -> id < S2.n -> ∀ x, (S2.push x).objs id = o := fun h1 h2 x => psh_old0 h1 h2
   simp -implicitDefEqProofs (disch := omega) only [seval, go_sem, e1, e2, e4, e6, e7, e8, e9, hbox, hdl, hx, ho hbox (by omega)]
   refine c_r10_fits (M := M) (r := r) ?_ hrB
   have hrow := push_self S2 (.cells 44 [.lit (.string (st r.path)), .lit (.string (st r.name)), .sl .none 1 (dB r.arc), .sl .none 1 (dT r.refs)])
   have pbox := ho hbox (by omega) (.cells 44 [.lit (.string (st r.path)), .lit (.string (st r.name)), .sl .none 1 (dB r.arc), .sl .none 1 (dT r.refs)])
   have pres := ho hres (by omega) (.cells 44 [.lit (.string (st r.path)), .lit (.string (st r.name)), .sl .none 1 (dB r.arc), .sl .none 1 (dT r.refs)])
   have ptt := ho htt (by omega) (.cells 44 [.lit (.string (st r.path)), .lit (.string (st r.name)), .sl .none 1 (dB r.arc), .sl .none 1 (dT r.refs)])
   have pkL := ho hkL (by omega) (.cells 44 [.lit (.string (st r.path)), .lit (.string (st r.name)), .sl .none 1 (dB r.arc), .sl .none 1 (dT r.refs)])
   have pk7 := ho hk7 (by omega) (.cells 44 [.lit (.string (st r.path)), .lit (.string (st r.name)), .sl .none 1 (dB r.arc), .sl .none 1 (dT r.refs)])
   have pk8 := ho hk8 (by omega) (.cells 44 [.lit (.string (st r.path)), .lit (.string (st r.name)), .sl .none 1 (dB r.arc), .sl .none 1 (dT r.refs)])
   have pkp : Keep S (S2.push (.cells 44 [.lit (.string (st r.path)), .lit (.string (st r.name)), .sl .none 1 (dB r.arc), .sl .none 1 (dT r.refs)])) := hkp.push' _
   have pn : (S2.push (.cells 44 [.lit (.string (st r.path)), .lit (.string (st r.name)), .sl .none 1 (dB r.arc), .sl .none 1 (dT r.refs)])).n = S2.n + 1 := rfl
   clear hbox hres htt hkL hk7 hk8 hkp ho
   generalize S2.push (.cells 44 [.lit (.string (st r.path)), .lit (.string (st r.name)), .sl .none 1 (dB r.arc), .sl .none 1 (dT r.refs)]) = S3 at *
   by_cases hf : fitsR r = false
   · rw [if_pos hf] at hpf
     rw [putM_no M l (e := 4) (by rw [← hpf]) (by decide), hf]
     simp -implicitDefEqProofs (disch := omega) only [seval, go_sem, e1, e2, e4, e6, e7, e8, e9, pbox, pres]
     refine ⟨_, resCell (id := S.n + 1) e4 ti66 (TS.set_same' _ _ _) rfl rfl, ?_⟩
     exact ⟨_, .refl _, .tupF (.cons (ren_refV _ _ M) (.cons (.lit _) .nil)), pkp.set (by omega) _⟩
   rw [if_neg hf] at hpf
   have hf' : fitsR r = true := by simpa using hf
   rw [hf']
   simp -implicitDefEqProofs (disch := omega) only [seval, go_sem, e1, e2, e4, e6, e7, e8, e9, pbox, pres, ptt, hrow]
   refine .drop (b := [refV ⟨M.L ++ fr, M.roots, M.ver, M.tc⟩, .lit (.string (st r.path))]) (.cons (.aggF (.cons (.refl _) (.cons (.refl _) (.cons (.sl _ _ _) (.cons (.refl _) (.cons (.refl _) (.cons (.refl _) .nil))))))) (.cons (.refl _) .nil)) (c_r10_Has (M := ⟨M.L ++ fr, M.roots, M.ver, M.tc⟩) ?_ ⟨by show (M.L ++ fr).length <= _; omega, hb.rl, hb.tl⟩)
   by_cases hh : hasP (M.L ++ fr) r.path = true
   · rw [if_pos hh] at hpf
     rw [show hasP (StM.mk (M.L ++ fr) M.roots M.ver M.tc).L r.path = true from hh]
     simp -implicitDefEqProofs (disch := omega) only [seval, go_sem, e1, e2, e4, e6, e7, e8, e9, pbox, pres, ptt, hrow]
     exact ⟨n - 1, by omega, i + 1, kL, k7, k8, fr, by omega, hpf, by omega, hfr, e1, e2, e4, e6, e7, e8, rfl, pbox, pres, ptt, pkL, pk7, pk8, n1, n2, n3, a1, a2, a3, by omega, by omega, by omega, pkp⟩
   rw [if_neg hh] at hpf
   have hh' : hasP (M.L ++ fr) r.path = false := by simpa using hh
   rw [show hasP (StM.mk (M.L ++ fr) M.roots M.ver M.tc).L r.path = false from hh']
   have hdf2 := dT_len r.refs
   simp -implicitDefEqProofs (disch := omega) only [seval, go_sem, e1, e2, e4, e6, e7, e8, e9, pbox, pres, ptt, hrow]
   refine loW_inv (fun n2 T S' => ∃ k2 : Nat, n2 + k2 = r.refs.length /\ S' = S3 /\ T 1 = .sl g 4 (dR l) /\ T 2 = .ptr S.n 0 /\ T 4 = .ptr (S.n + 1) 0 /\ T 6 = .ptr (S.n + 2) 0 /\ T 7 = .sl (.own k7) 1 (dT (pathsOf fr)) /\ T 8 = .sl (.own k8) 1 (dT (fr.flatMap rowTouch)) /\ T 9 = .lit (.int .i64 (i : Int)) /\ T 10 = .ptr S2.n 0 /\ T 11 = .lit (.int .i64 (k2 : Int)) /\ (r.refs.take k2).all (hasP (M.L ++ fr)) = true) r.refs.length ?_ ?_
   · exact ⟨0, rfl, rfl, e1, e2, e4, e6, e7, e8, e9, rfl, rfl, rfl⟩
   clear e1 e2 e4 e6 e7 e8 e9
   rintro m T S4 ⟨k2, hk2, rfl, e1, e2, e4, e6, e7, e8, e9, e10, e11, hall⟩
   by_cases hcr : k2 < r.refs.length
   · have hy := dT_get hcr
     have htk := take_succ_D r.refs (i := k2) [] hcr
     have hqm := getD_mem (d := []) hcr
     generalize r.refs.getD k2 [] = q at *
     simp -implicitDefEqProofs (disch := omega) only [seval, go_sem, e1, e2, e4, e6, e7, e8, e9, e10, e11, pbox, pres, ptt, hrow, hdf2, hy]
     refine drW_at [(0, 0), (1, 0), (2, 0), (3, 0), (4, 0), (5, 0), (6, 2), (7, 0)] followsN (by kernel_rfl) ?_
     simp -implicitDefEqProofs (disch := omega) only [seval, go_sem, e1, e2, e4, e6, e7, e8, e9, e10, e11, pbox, pres, ptt, hrow, hdf2, hy]
     refine .drop (b := [refV ⟨M.L ++ fr, M.roots, M.ver, M.tc⟩, .lit (.string (st q))]) (.cons (.aggF (.cons (.refl _) (.cons (.refl _) (.cons (.sl _ _ _) (.cons (.refl _) (.cons (.refl _) (.cons (.refl _) .nil))))))) (.cons (.refl _) .nil)) (c_r10_Has (M := ⟨M.L ++ fr, M.roots, M.ver, M.tc⟩) ?_ ⟨by show (M.L ++ fr).length <= _; omega, hb.rl, hb.tl⟩)
     by_cases hq : hasP (M.L ++ fr) q = true
     · rw [show hasP (StM.mk (M.L ++ fr) M.roots M.ver M.tc).L q = true from hq]
       simp -implicitDefEqProofs (disch := omega) only [seval, go_sem, e1, e2, e4, e6, e7, e8, e9, e10, e11, pbox, pres, ptt, hrow, hdf2, hy]
       exact ⟨m - 1, by omega, k2 + 1, by omega, rfl, e1, e2, e4, e6, e7, e8, e9, e10, rfl, by rw [htk, List.all_append, hall]; simp [hq]⟩
     · have hq' : hasP (M.L ++ fr) q = false := by simpa using hq
       rw [show hasP (StM.mk (M.L ++ fr) M.roots M.ver M.tc).L q = false from hq']
       have hno : r.refs.all (hasP (M.L ++ fr)) = false := by
        rw [List.all_eq_false]
        exact ⟨q, hqm, by rw [hq']; simp⟩
       rw [if_pos hno] at hpf
       rw [putM_no M l (e := 6) (by rw [← hpf]) (by decide)]
       simp -implicitDefEqProofs (disch := omega) only [seval, go_sem, e1, e2, e4, e6, e7, e8, e9, e10, e11, pbox, pres, ptt, hrow, hdf2, hy]
       refine ⟨_, resCell (id := S.n + 1) e4 ti66 (TS.set_same' _ _ _) rfl rfl, ?_⟩
       exact ⟨_, .refl _, .tupF (.cons (ren_refV _ _ M) (.cons (.lit _) .nil)), pkp.set (by omega) _⟩
   rw [List.take_of_length_le (by omega)] at hall
   rw [if_neg (by rw [hall]; simp)] at hpf
   by_cases h64 : 64 <= (M.L ++ fr).length
   · rw [if_pos h64] at hpf
     have h64' : 64 <= M.L.length + fr.length := by rw [← List.length_append]; exact h64
     rw [putM_no M l (e := 3) (by rw [← hpf]) (by decide)]
     simp -implicitDefEqProofs (disch := omega) only [seval, go_sem, e1, e2, e4, e6, e7, e8, e9, e10, e11, pbox, pres, ptt, hrow, hdf2, hdf]
     refine ⟨_, resCell (id := S.n + 1) e4 ti66 (TS.set_same' _ _ _) rfl rfl, ?_⟩
     exact ⟨_, .refl _, .tupF (.cons (ren_refV _ _ M) (.cons (.lit _) .nil)), pkp.set (by omega) _⟩
   rw [if_neg h64] at hpf
   have h64' : ¬ 64 <= M.L.length + fr.length := by rw [← List.length_append]; exact h64
   have hdn : dR (M.L ++ fr) ++ [D.agg [.lit (.string (st r.path)), .lit (.string (st r.name)), .sl 1 (dB r.arc), .sl 1 (dT r.refs)]] = dR (M.L ++ (fr ++ [r])) := by rw [← List.append_assoc, dR_app (M.L ++ fr)]; rfl
   simp -implicitDefEqProofs (disch := omega) only [seval, go_sem, e1, e2, e4, e6, e7, e8, e9, e10, e11, pbox, pres, ptt, hrow, hdf2, hdf, pkL, pk7, pk8, hd7, hd8, hdn]
   refine ⟨rfl, n - 1, by omega, i + 1, S4.n, S4.n + 1, S4.n + 3, fr ++ [r], by omega, hpf, by simp; omega, ?_, e1, e2, e4, e6, ?_, ?_, rfl, psh4 ((st_old _ (by omega)).trans ((st_old _ (by omega)).trans ((st_old _ (by omega)).trans ((st_old _ (by omega)).trans pbox)))) (by show S.n < S4.n; omega), psh4 ((st_old _ (by omega)).trans ((st_old _ (by omega)).trans ((st_old _ (by omega)).trans ((st_old _ (by omega)).trans pres)))) (by show S.n + 1 < S4.n; omega), psh4 ((st_old _ (by omega)).trans ((st_old _ (by omega)).trans (TS.set_same' _ _ _))) (by show S.n + 2 < S4.n; omega), psh_old0 (psh_old0 (psh_old0 (push_self _ _) (Nat.lt_succ_self _)) (by show S4.n < S4.n + 2; omega)) (by show S4.n < S4.n + 3; omega), psh_old0 (psh_old0 (push_self (TS.push _ _) _) (by show S4.n + 1 < S4.n + 2; omega)) (by show S4.n + 1 < S4.n + 3; omega), push_self (TS.push (TS.push (TS.push _ _) _) _) _, by omega, by omega, by omega, by omega, by omega, by omega, by show S4.n < S4.n + 4; omega, by show S4.n + 1 < S4.n + 4; omega, by show S4.n + 3 < S4.n + 4; omega, (((((((pkp.set (by omega) _).set (by omega) _).set (by omega) _).set (by omega) _).push' _).push' _).push' _).push' _⟩
   · intro x hx
     rcases List.mem_append.1 hx with hx | hx
     · exact hfr x hx
     · rw [List.mem_singleton.1 hx]; exact hr255
   · rw [pathsOf_app, dT_app]; rfl
   · rw [List.flatMap_append, dT_app, show dT ([r].flatMap rowTouch) = [D.lit (.string (st r.path))] ++ dT r.refs from by rw [List.flatMap_cons, List.flatMap_nil, List.append_nil]; rfl]
     exact congrArg (TV.sl (.own (S4.n + 3)) 1) (List.append_assoc _ _ _)
 · rw [List.drop_of_length_le (by omega)] at hpf
   have hpf1 : (putF M.L l []).1 = 0 := by rw [← hpf]; rfl
   have hpf2 : (putF M.L l []).2 = fr := by rw [← hpf]; rfl
   by_cases h0 : fr = []
   · have hpm : putM M l = (M, 0) := by
      unfold putM
      rw [hpf2, if_neg (by rw [hpf1]; simp), if_pos h0]
     rw [hpm]
     have h00 : fr.length = 0 := by rw [h0]; rfl
     have pkp := hkp
     simp -implicitDefEqProofs (disch := omega) only [seval, go_sem, e1, e2, e4, e6, e7, e8, e9, hbox, hres, hdl, hd7]
     refine ⟨_, resCell (id := S.n + 1) e4 ti66 (TS.set_same' _ _ _) rfl rfl, ?_⟩
     exact ⟨_, .refl _, .tupF (.cons (ren_refV _ _ M) (.cons (.lit _) .nil)), pkp.set (by omega) _⟩
   · have hpm : putM M l = (touchM ⟨M.L ++ fr, M.roots, M.ver + 1#64, M.tc⟩ (fr.flatMap rowTouch), 0) := by
      unfold putM
      rw [hpf2, if_neg (by rw [hpf1]; simp), if_neg h0]
     rw [hpm]
     have h00 : 0 < fr.length := List.length_pos_iff.2 h0
     simp -implicitDefEqProofs (disch := omega) only [seval, go_sem, e1, e2, e4, e6, e7, e8, e9, hbox, hres, htt, hdl, hd7]
     refine .drop (b := [refV ⟨M.L ++ fr, M.roots, M.ver + 1#64, M.tc⟩, .sl (.own k8) 1 (dT (fr.flatMap rowTouch))]) (.cons (.aggF (.cons (.refl _) (.cons (.refl _) (.cons (.sl _ _ _) (.cons (.refl _) (.cons (.refl _) (.cons (.refl _) .nil))))))) (.cons (.refl _) .nil)) ?_
     refine c_r10_touch (M := ⟨M.L ++ fr, M.roots, M.ver + 1#64, M.tc⟩) ?_ ⟨by show (M.L ++ fr).length <= _; omega, hb.rl, hb.tl⟩ (by omega)
     rw [refV_mk]
     simp -implicitDefEqProofs (disch := omega) only [seval, go_sem, e1, e2, e4, e6, e7, e8, e9, hbox, hres, htt, hdl, hd7]
     refine ⟨_, resCell (id := S.n + 1) e4 ti66 (TS.set_same' _ _ _) rfl rfl, ?_⟩
     exact ⟨_, .refl _, .tupF (.cons (ren_refV _ _ _) (.cons (.lit _) .nil)), (hkp.set (by omega) _).set (by omega) _⟩
end
end Go.Proofs.YtoldjfappfbfbaaGreatDoor
namespace Go.Proofs.YtoldjfappfbfbaaGreatDoor
open Go.RowKit TL
section
variable {S : TS} {M : StM}
set_option maxRecDepth 8000 in
set_option maxHeartbeats 1000000 in
theorem c_r10_cut {l : List Bs} {g : Tag} {K : TV -> TS -> Prop} (hK : K (refV (cutM M l)) S) (hb : RefB M) (hML : M.L.length <= 1000) (hr : ∀ r ∈ M.L, r.refs.length <= 255) (hll : l.length <= 1000000) : TCall env 78 [refV M, .sl g 1 (dT l)] S K := by
 refine TCall.toPureD (r := refV (cutM M l)) ?_ hK
 have hdr := dR_len M.L
 rw [refV_mk M]
 refine TCall.w 57 [.cell 4 66] Tryz.func78 rfl rfl rfl rfl (by kernel_rfl) rfl ?_
 simp -implicitDefEqProofs (disch := omega) only [seval, go_sem]
 have hbox : ((S.push (.cells 66 [.sl .none 1 (gD fW), .sl .none 1 (gD kW), .sl .none 4 (dR M.L), .sl .none 1 (dT M.roots), .lit (w64 (M.ver + 1#64)), .sl .none 2 (dC M.tc)])).push (.cells 66 [.sl .full 0 [], .sl .full 0 [], .sl .full 0 [], .sl .full 0 [], .lit (.int .u64 0), .sl .full 0 []])).objs S.n = .cells 66 [.sl .none 1 (gD fW), .sl .none 1 (gD kW), .sl .none 4 (dR M.L), .sl .none 1 (dT M.roots), .lit (w64 (M.ver + 1#64)), .sl .none 2 (dC M.tc)] := psh_old0 (push_self _ _) (Nat.lt_succ_self _)
 have hres : ((S.push (.cells 66 [.sl .none 1 (gD fW), .sl .none 1 (gD kW), .sl .none 4 (dR M.L), .sl .none 1 (dT M.roots), .lit (w64 (M.ver + 1#64)), .sl .none 2 (dC M.tc)])).push (.cells 66 [.sl .full 0 [], .sl .full 0 [], .sl .full 0 [], .sl .full 0 [], .lit (.int .u64 0), .sl .full 0 []])).objs (S.n + 1) = .cells 66 [.sl .full 0 [], .sl .full 0 [], .sl .full 0 [], .sl .full 0 [], .lit (.int .u64 0), .sl .full 0 []] := push_self (S.push _) _
 have hkp : Keep S ((S.push (.cells 66 [.sl .none 1 (gD fW), .sl .none 1 (gD kW), .sl .none 4 (dR M.L), .sl .none 1 (dT M.roots), .lit (w64 (M.ver + 1#64)), .sl .none 2 (dC M.tc)])).push (.cells 66 [.sl .full 0 [], .sl .full 0 [], .sl .full 0 [], .sl .full 0 [], .lit (.int .u64 0), .sl .full 0 []])) := (Keep.push _ _).push' _
 have hn1 : ((S.push (.cells 66 [.sl .none 1 (gD fW), .sl .none 1 (gD kW), .sl .none 4 (dR M.L), .sl .none 1 (dT M.roots), .lit (w64 (M.ver + 1#64)), .sl .none 2 (dC M.tc)])).push (.cells 66 [.sl .full 0 [], .sl .full 0 [], .sl .full 0 [], .sl .full 0 [], .lit (.int .u64 0), .sl .full 0 []])).n = S.n + 2 := rfl
 generalize (S.push (.cells 66 [.sl .none 1 (gD fW), .sl .none 1 (gD kW), .sl .none 4 (dR M.L), .sl .none 1 (dT M.roots), .lit (w64 (M.ver + 1#64)), .sl .none 2 (dC M.tc)])).push (.cells 66 [.sl .full 0 [], .sl .full 0 [], .sl .full 0 [], .sl .full 0 [], .lit (.int .u64 0), .sl .full 0 []]) = S1 at *
 refine loW.asRow 5 4 rfl (.inl rfl) ?_
 refine loW.asRow 6 1 rfl (.inl rfl) ?_
 refine loW_inv (fun n T S' => ∃ (i k5 k6 : Nat), n + i = M.L.length /\ T 1 = .sl g 1 (dT l) /\ T 2 = .ptr S.n 0 /\ T 4 = .ptr (S.n + 1) 0 /\ T 5 = .sl (.own k5) 4 (dR ((M.L.take i).filter fun r => !decide (r.path ∈ l))) /\ T 6 = .sl (.own k6) 1 (dT (((M.L.take i).filter fun r => decide (r.path ∈ l)).flatMap rowTouch)) /\ T 7 = .lit (.int .i64 (i : Int)) ∧
  S'.objs S.n = .cells 66 [.sl .none 1 (gD fW), .sl .none 1 (gD kW), .sl .none 4 (dR M.L), .sl .none 1 (dT M.roots), .lit (w64 (M.ver + 1#64)), .sl .none 2 (dC M.tc)] /\ S'.objs (S.n + 1) = .cells 66 [.sl .full 0 [], .sl .full 0 [], .sl .full 0 [], .sl .full 0 [], .lit (.int .u64 0), .sl .full 0 []] /\ S'.objs k5 = .lin /\ S'.objs k6 = .lin /\ k5 ≠ k6 /\ S.n + 1 < k5 /\ S.n + 1 < k6 /\ k5 < S'.n /\ k6 < S'.n /\ Keep S S') M.L.length ?_ ?_
 · exact ⟨0, S1.n, S1.n + 1, rfl, rfl, rfl, rfl, rfl, rfl, rfl, psh_old0 (psh_old0 hbox (by omega)) (by show S.n < S1.n + 1; omega), psh_old0 (psh_old0 hres (by omega)) (by show S.n + 1 < S1.n + 1; omega), psh_old0 (push_self _ _) (Nat.lt_succ_self _), push_self (S1.push _) _, by omega, by omega, by omega, by show S1.n < S1.n + 2; omega, by show S1.n + 1 < S1.n + 2; omega, (hkp.push' _).push' _⟩
 clear hbox hres hkp
 rintro n T S2 ⟨i, k5, k6, hi, e1, e2, e4, e5, e6, e7, hbox, hres, hk5, hk6, n1, a1, a2, b1, b2, hkp⟩
 have hft : ((M.L.take i).filter fun r => !decide (r.path ∈ l)).length <= i := Nat.le_trans (List.length_filter_le _ _) (by rw [List.length_take]; omega)
 have hgt : ((M.L.take i).filter fun r => decide (r.path ∈ l)).length <= i := Nat.le_trans (List.length_filter_le _ _) (by rw [List.length_take]; omega)
 have hd5 := dR_len ((M.L.take i).filter fun r => !decide (r.path ∈ l))
 have hd6 := dT_len (((M.L.take i).filter fun r => decide (r.path ∈ l)).flatMap rowTouch)
 have htl := touch_len (fr := (M.L.take i).filter fun r => decide (r.path ∈ l)) fun r h => hr r (List.mem_of_mem_take (List.mem_filter.1 h).1)
 by_cases hc : i < M.L.length
 · have hx := dR_get hc
   have htk := take_succ_D M.L (i := i) default hc
   have h255 := hr _ (getD_mem (d := default) hc)
   generalize M.L.getD i default = r at *
   have hdf := dT_len r.refs
   rw [rowD_mk] at hx
   simp -implicitDefEqProofs (disch := omega) only [seval, go_sem, e1, e2, e4, e5, e6, e7, hbox, hdr, hx]
   refine c_godownref01_Has ?_
   by_cases hm : r.path ∈ l
   · rw [decide_eq_true hm]
     simp -implicitDefEqProofs (disch := omega) only [seval, go_sem, e1, e2, e4, e5, e6, e7, hbox, hdr, hx, hk6, hd6, hdf]
     have hb2 : (((S2.set k6 .gone).push .gone).push .lin).objs S.n = .cells 66 [.sl .none 1 (gD fW), .sl .none 1 (gD kW), .sl .none 4 (dR M.L), .sl .none 1 (dT M.roots), .lit (w64 (M.ver + 1#64)), .sl .none 2 (dC M.tc)] := psh_old0 (psh_old0 ((st_old _ (by omega)).trans hbox) (by show S.n < S2.n; omega)) (by show S.n < S2.n + 1; omega)
     refine ⟨n - 1, by omega, i + 1, k5, S2.n + 1, by omega, e1, e2, e4, ?_, ?_, rfl, hb2, psh_old0 (psh_old0 ((st_old _ (by omega)).trans hres) (by show S.n + 1 < S2.n; omega)) (by show S.n + 1 < S2.n + 1; omega), psh_old0 (psh_old0 ((st_old _ (by omega)).trans hk5) (by show k5 < S2.n; omega)) (by show k5 < S2.n + 1; omega), push_self (TS.push _ _) _, by omega, by omega, by omega, by show k5 < S2.n + 2; omega, by show S2.n + 1 < S2.n + 2; omega, ((hkp.set (by omega) _).push' _).push' _⟩
     · rw [htk, List.filter_append, List.filter_cons, if_neg (by rw [decide_eq_true hm]; simp), List.filter_nil, List.append_nil]
       exact e5
     · rw [htk, List.filter_append, List.filter_cons, if_pos (decide_eq_true hm), List.filter_nil, List.flatMap_append, dT_app, show dT ([r].flatMap rowTouch) = [D.lit (.string (st r.path))] ++ dT r.refs from by rw [List.flatMap_cons, List.flatMap_nil, List.append_nil]; rfl]
       exact congrArg (TV.sl (.own (S2.n + 1)) 1) (List.append_assoc _ _ _)
   · rw [decide_eq_false hm]
     simp -implicitDefEqProofs (disch := omega) only [seval, go_sem, e1, e2, e4, e5, e6, e7, hbox, hdr, hx, hk5, hd5, hdf]
     refine ⟨rfl, n - 1, by omega, i + 1, S2.n, k6, by omega, e1, e2, e4, ?_, ?_, rfl, psh_old0 ((st_old _ (by omega)).trans hbox) (by show S.n < S2.n; omega), psh_old0 ((st_old _ (by omega)).trans hres) (by show S.n + 1 < S2.n; omega), push_self _ _, psh_old0 ((st_old _ (by omega)).trans hk6) (by show k6 < S2.n; omega), by omega, by omega, by omega, Nat.lt_succ_self _, by show k6 < S2.n + 1; omega, (hkp.set (by omega) _).push' _⟩
     · rw [htk, List.filter_append, List.filter_cons, if_pos (by rw [decide_eq_false hm]; rfl), dR_app]; rfl
     · rw [htk, List.filter_append, List.filter_cons, if_neg (by rw [decide_eq_false hm]; simp), List.filter_nil, List.append_nil]
       exact e6
 · rw [List.take_of_length_le (by omega)] at e5 e6 hft htl hgt
   simp -implicitDefEqProofs (disch := omega) only [seval, go_sem, e1, e2, e4, e5, e6, e7, hbox, hres, hdr]
   refine .drop (b := [refV ⟨M.L.filter fun r => !decide (r.path ∈ l), M.roots, M.ver + 1#64, M.tc⟩, .sl (.own k6) 1 (dT ((M.L.filter fun r => decide (r.path ∈ l)).flatMap rowTouch))]) (.cons (.aggF (.cons (.refl _) (.cons (.refl _) (.cons (.sl _ _ _) (.cons (.refl _) (.cons (.refl _) (.cons (.refl _) .nil))))))) (.cons (.refl _) .nil)) ?_
   refine c_r10_touch (M := ⟨M.L.filter fun r => !decide (r.path ∈ l), M.roots, M.ver + 1#64, M.tc⟩) ?_ ⟨by show (M.L.filter _).length <= _; omega, hb.rl, hb.tl⟩ (by omega)
   rw [refV_mk (touchM ⟨M.L.filter fun r => !decide (r.path ∈ l), M.roots, M.ver + 1#64, M.tc⟩ ((M.L.filter fun r => decide (r.path ∈ l)).flatMap rowTouch))]
   simp -implicitDefEqProofs (disch := omega) only [seval, go_sem, e1, e2, e4, e5, e6, e7, hbox, hres, hdr]
   refine ⟨_, resCell (id := S.n + 1) e4 ti66 (TS.set_same' _ _ _) rfl rfl, ?_⟩
   exact ⟨_, .refl _, ren_refV _ _ (cutM M l), (hkp.set (by omega) _).set (by omega) _⟩
set_option maxRecDepth 8000 in
set_option maxHeartbeats 1000000 in
theorem c_r10_Delete {p : Bs} {K : TV -> TS -> Prop} (hK : K (.tup [refV (deleteM M p).1, .lit (.int .i64 (deleteM M p).2)]) S) (hb : RefB M) (hML : M.L.length <= 1000) (hr : ∀ r ∈ M.L, r.refs.length <= 255) : TCall env 33 [refV M, .lit (.string (st p))] S K := by
 refine TCall.toPureD (r := .tup [refV (deleteM M p).1, .lit (.int .i64 (deleteM M p).2)]) ?_ hK
 have hrl := hb.rl
 rw [refV_mk M]
 refine TCall.w 29 [.cell 4 66, .tmp 5] Tryz.func33 rfl rfl rfl rfl (by kernel_rfl) rfl ?_
 simp -implicitDefEqProofs (disch := omega) only [seval, go_sem]
 have hbox : ((S.push (.cells 66 [.sl .none 1 (gD fW), .sl .none 1 (gD kW), .sl .none 4 (dR M.L), .sl .none 1 (dT M.roots), .lit (w64 M.ver), .sl .none 2 (dC M.tc)])).push (.cells 66 [.sl .full 0 [], .sl .full 0 [], .sl .full 0 [], .sl .full 0 [], .lit (.int .u64 0), .sl .full 0 []])).objs S.n = .cells 66 [.sl .none 1 (gD fW), .sl .none 1 (gD kW), .sl .none 4 (dR M.L), .sl .none 1 (dT M.roots), .lit (w64 M.ver), .sl .none 2 (dC M.tc)] := psh_old0 (push_self _ _) (Nat.lt_succ_self _)
 have hres : ((S.push (.cells 66 [.sl .none 1 (gD fW), .sl .none 1 (gD kW), .sl .none 4 (dR M.L), .sl .none 1 (dT M.roots), .lit (w64 M.ver), .sl .none 2 (dC M.tc)])).push (.cells 66 [.sl .full 0 [], .sl .full 0 [], .sl .full 0 [], .sl .full 0 [], .lit (.int .u64 0), .sl .full 0 []])).objs (S.n + 1) = .cells 66 [.sl .full 0 [], .sl .full 0 [], .sl .full 0 [], .sl .full 0 [], .lit (.int .u64 0), .sl .full 0 []] := push_self (S.push _) _
 have hkp : Keep S ((S.push (.cells 66 [.sl .none 1 (gD fW), .sl .none 1 (gD kW), .sl .none 4 (dR M.L), .sl .none 1 (dT M.roots), .lit (w64 M.ver), .sl .none 2 (dC M.tc)])).push (.cells 66 [.sl .full 0 [], .sl .full 0 [], .sl .full 0 [], .sl .full 0 [], .lit (.int .u64 0), .sl .full 0 []])) := (Keep.push _ _).push' _
 have hn1 : ((S.push (.cells 66 [.sl .none 1 (gD fW), .sl .none 1 (gD kW), .sl .none 4 (dR M.L), .sl .none 1 (dT M.roots), .lit (w64 M.ver), .sl .none 2 (dC M.tc)])).push (.cells 66 [.sl .full 0 [], .sl .full 0 [], .sl .full 0 [], .sl .full 0 [], .lit (.int .u64 0), .sl .full 0 []])).n = S.n + 2 := rfl
 generalize (S.push (.cells 66 [.sl .none 1 (gD fW), .sl .none 1 (gD kW), .sl .none 4 (dR M.L), .sl .none 1 (dT M.roots), .lit (w64 M.ver), .sl .none 2 (dC M.tc)])).push (.cells 66 [.sl .full 0 [], .sl .full 0 [], .sl .full 0 [], .sl .full 0 [], .lit (.int .u64 0), .sl .full 0 []]) = S1 at *
 rw [← refV_mk]
 refine c_r10_Has ?_ hb
 unfold deleteM
 by_cases h1 : hasP M.L p = false
 · rw [if_pos h1, h1]
   simp -implicitDefEqProofs (disch := omega) only [seval, go_sem, hbox, hres]
   refine ⟨_, resCell (id := S.n + 1) rfl ti66 (TS.set_same' _ _ _) rfl rfl, ?_⟩
   exact ⟨_, .refl _, .tupF (.cons (ren_refV _ _ M) (.cons (.lit _) .nil)), hkp.set (by omega) _⟩
 rw [if_neg h1]
 have h1' : hasP M.L p = true := by simpa using h1
 rw [h1']
 simp -implicitDefEqProofs (disch := omega) only [seval, go_sem, hbox, hres]
 refine c_godownref01_Has ?_
 by_cases h2 : p ∈ M.roots
 · rw [if_pos (.inl h2), decide_eq_true h2]
   simp -implicitDefEqProofs (disch := omega) only [seval, go_sem, hbox, hres]
   refine ⟨_, resCell (id := S.n + 1) rfl ti66 (TS.set_same' _ _ _) rfl rfl, ?_⟩
   exact ⟨_, .refl _, .tupF (.cons (ren_refV _ _ M) (.cons (.lit _) .nil)), hkp.set (by omega) _⟩
 rw [decide_eq_false h2]
 simp -implicitDefEqProofs (disch := omega) only [seval, go_sem, hbox, hres]
 rw [← refV_mk]
 refine c_r10_Referrers ?_ hb (by omega) (fun r h => Nat.le_trans (hr r h) (by decide))
 have hrf : (referrersL M.L p).length <= 1000 := by
  have h3 := riseL_len (pathsOf (M.L.filter fun r => decide (p ∈ r.refs)))
  have h4 : (pathsOf (M.L.filter fun r => decide (p ∈ r.refs))).length <= M.L.length := by rw [pathsOf, List.length_map]; exact List.length_filter_le _ _
  show (riseL _).length <= 1000
  omega
 simp -implicitDefEqProofs (disch := omega) only [seval, go_sem, hbox, hres]
 refine c_r10_without ?_ (by omega)
 have hdw := dT_len (withoutL (referrersL M.L p) p)
 by_cases h3 : withoutL (referrersL M.L p) p = []
 · rw [if_neg (fun h => h.elim h2 (fun h => h h3)), h3]
   have h00 : (dT []).length = 0 := rfl
   simp -implicitDefEqProofs (disch := omega) only [seval, go_sem, hbox, hres, h00]
   refine c_r10_cut (M := M) (l := [p]) ?_ hb hML hr (by simp)
   rw [refV_mk (cutM M [p])]
   simp -implicitDefEqProofs (disch := omega) only [seval, go_sem, hbox, hres]
   refine ⟨_, resCell (id := S.n + 1) rfl ti66 (TS.set_same' _ _ _) rfl rfl, ?_⟩
   exact ⟨_, .refl _, .tupF (.cons (ren_refV _ _ (cutM M [p])) (.cons (.lit _) .nil)), hkp.set (by omega) _⟩
 · have h4 : 0 < (withoutL (referrersL M.L p) p).length := List.length_pos_iff.2 h3
   rw [if_pos (.inr h3)]
   simp -implicitDefEqProofs (disch := omega) only [seval, go_sem, hbox, hres, hdw]
   refine ⟨_, resCell (id := S.n + 1) rfl ti66 (TS.set_same' _ _ _) rfl rfl, ?_⟩
   exact ⟨_, .refl _, .tupF (.cons (ren_refV _ _ M) (.cons (.lit _) .nil)), hkp.set (by omega) _⟩
end
end Go.Proofs.YtoldjfappfbfbaaGreatDoor
namespace Go.Proofs.YtoldjfappfbfbaaGreatDoor
open Go.RowKit TL
theorem reach_fix {L : List RowM} {from_ cur : List Bs} (hr : Ris cur) (h1 : ∀ p ∈ cur, Rch L from_ p) (h2 : ∀ p ∈ from_, hasP L p = true -> p ∈ cur) (he : (stepR L cur).length = cur.length) : reachL L from_ = cur := by
 have e : reachN L (L.length + 1) cur = cur := by rw [reachN, if_pos he]
 have h := reachN_ok (L.length + 1) cur hr h1 h2 (by omega)
 rw [e] at h
 obtain ⟨g1, g2⟩ := reachL_ok L from_
 exact ris_ext g1 hr fun p => by rw [g2, h.2]
theorem Rch.le {L : List RowM} {from_ cur : List Bs} (hr : Ris cur) (h1 : ∀ p ∈ cur, Rch L from_ p) : cur.length <= L.length := by
 have := nodup_len (ris_nodup hr) (b := pathsOf L) fun p hp => (hasP_iff L p).1 (h1 p hp).has
 simpa [pathsOf] using this
theorem refs_of_le {L : List RowM} (hr : ∀ r ∈ L, r.refs.length <= 255) (p : Bs) : (refsOf L p).length <= 255 := by
 unfold refsOf
 cases h : rowAt L p with
 | none => simp
 | some r => exact hr r (rowAt_path h).2
theorem more_len {L : List RowM} (hr : ∀ r ∈ L, r.refs.length <= 255) : ∀ c : List Bs, (c.flatMap (refsOf L)).length <= 255 * c.length
 | [] => Nat.le_refl _
 | p :: c => by
  have h1 := more_len hr c
  have h2 := refs_of_le hr p
  rw [List.flatMap_cons, List.length_append, List.length_cons]
  omega
section
variable {S : TS} {M : StM}
set_option maxRecDepth 8000 in
set_option maxHeartbeats 4000000 in
theorem c_r10_Reach {l : List Bs} {g : Tag} {K : TV -> TS -> Prop} (hK : K (.sl .none 1 (dT (reachL M.L l))) S) (hb : RefB M) (hML : M.L.length <= 100) (hr : ∀ r ∈ M.L, r.refs.length <= 255) (hll : l.length <= 1000) : TCall env 101 [refV M, .sl g 1 (dT l)] S K := by
 refine TCall.toPureD (r := .sl .none 1 (dT (reachL M.L l))) ?_ hK
 have hdr := dR_len M.L
 have hdl := dT_len l
 rw [refV_mk M]
 refine TCall.w 75 [.tmp 4] Tryz.func101 rfl rfl rfl rfl (by kernel_rfl) rfl ?_
 simp -implicitDefEqProofs (disch := omega) only [seval, go_sem]
 have hbox : (S.push (.cells 66 [.sl .none 1 (gD fW), .sl .none 1 (gD kW), .sl .none 4 (dR M.L), .sl .none 1 (dT M.roots), .lit (w64 M.ver), .sl .none 2 (dC M.tc)])).objs S.n = .cells 66 [.sl .none 1 (gD fW), .sl .none 1 (gD kW), .sl .none 4 (dR M.L), .sl .none 1 (dT M.roots), .lit (w64 M.ver), .sl .none 2 (dC M.tc)] := push_self _ _
 refine loW.asRow 5 1 rfl (.inl rfl) ?_
 refine loW_inv (fun n T S' => ∃ (i k : Nat), n + i = l.length /\ T 1 = .sl g 1 (dT l) /\ T 2 = .ptr S.n 0 /\ T 5 = .sl (.own k) 1 (dT ((l.take i).filter (hasP M.L))) /\ T 6 = .lit (.int .i64 (i : Int)) /\ S'.objs S.n = .cells 66 [.sl .none 1 (gD fW), .sl .none 1 (gD kW), .sl .none 4 (dR M.L), .sl .none 1 (dT M.roots), .lit (w64 M.ver), .sl .none 2 (dC M.tc)] /\ S'.objs k = .lin /\ S.n < k /\ k < S'.n /\ Keep S S') l.length ?_ ?_
 · exact ⟨0, S.n + 1, rfl, rfl, rfl, rfl, rfl, psh_old0 hbox (Nat.lt_succ_self _), push_self _ _, Nat.lt_succ_self _, Nat.lt_succ_self _, (Keep.push _ _).push' _⟩
 clear hbox
 rintro n T S2 ⟨i, k, hi, e1, e2, e5, e6, hbox, hk, a1, b1, hkp⟩
 have hft : ((l.take i).filter (hasP M.L)).length <= i := Nat.le_trans (List.length_filter_le _ _) (by rw [List.length_take]; omega)
 have hdf := dT_len ((l.take i).filter (hasP M.L))
 by_cases hc : i < l.length
 · have hx := dT_get hc
   have htk := take_succ_D l (i := i) [] hc
   generalize l.getD i [] = q at *
   simp -implicitDefEqProofs (disch := omega) only [seval, go_sem, e1, e2, e5, e6, hbox, hdl, hx]
   refine drW_at [(0, 0), (1, 0), (2, 0), (3, 0), (4, 0), (5, 2)] followsN (by kernel_rfl) ?_
   simp -implicitDefEqProofs (disch := omega) only [seval, go_sem, e1, e2, e5, e6, hbox, hdl, hx]
   refine c_r10_Has (M := M) ?_ hb
   cases hq : hasP M.L q with
   | true =>
    simp -implicitDefEqProofs (disch := omega) only [seval, go_sem, e1, e2, e5, e6, hbox, hdl, hx, hk, hdf]
    refine ⟨n - 1, by omega, i + 1, S2.n, by omega, e1, e2, ?_, rfl, psh_old0 ((st_old _ (by omega)).trans hbox) (by show S.n < S2.n; omega), push_self _ _, by omega, Nat.lt_succ_self _, (hkp.set (by omega) _).push' _⟩
    rw [htk, List.filter_append, List.filter_cons, if_pos hq, dT_app]; rfl
   | false =>
    simp -implicitDefEqProofs (disch := omega) only [seval, go_sem, e1, e2, e5, e6, hbox, hdl, hx, hk, hdf]
    refine ⟨n - 1, by omega, i + 1, k, by omega, e1, e2, ?_, rfl, hbox, hk, a1, b1, hkp⟩
    rw [htk, List.filter_append, List.filter_cons, if_neg (by rw [hq]; simp), List.filter_nil, List.append_nil]
    exact e5
 rw [List.take_of_length_le (by omega)] at e5 hft hdf
 simp -implicitDefEqProofs (disch := omega) only [seval, go_sem, e1, e2, e5, e6, hbox, hdl]
 refine c_godownref01_Rise ?_ (by omega)
 have hb2 : (S2.push .lin).objs S.n = .cells 66 [.sl .none 1 (gD fW), .sl .none 1 (gD kW), .sl .none 4 (dR M.L), .sl .none 1 (dT M.roots), .lit (w64 M.ver), .sl .none 2 (dC M.tc)] := psh_old0 hbox (by omega)
 have hkp2 : Keep S (S2.push .lin) := hkp.push' _
 have hn2 : (S2.push .lin).n = S2.n + 1 := rfl
 have hl2 : (S2.push .lin).objs S2.n = .lin := push_self _ _
 generalize S2.push .lin = S3 at *
 simp -implicitDefEqProofs (disch := omega) only [seval, go_sem, e1, e2, e5, e6, hb2, hdl]
 refine loW_inv (fun n T S' => ∃ (cur : List Bs) (k : Nat) (gc : Tag), n + cur.length = M.L.length + 1 /\ Ris cur /\ (∀ p ∈ cur, Rch M.L l p) /\ (∀ p ∈ l, hasP M.L p = true -> p ∈ cur) /\ T 2 = .ptr S.n 0 /\ T 5 = .sl gc 1 (dT cur) /\ S'.objs S.n = .cells 66 [.sl .none 1 (gD fW), .sl .none 1 (gD kW), .sl .none 4 (dR M.L), .sl .none 1 (dT M.roots), .lit (w64 M.ver), .sl .none 2 (dC M.tc)] /\ S.n < S'.n /\ Keep S S') (M.L.length + 1 - (riseL (l.filter (hasP M.L))).length) ?_ ?_
 · have h1 : ∀ p ∈ riseL (l.filter (hasP M.L)), Rch M.L l p := fun p hp => by
    have := List.mem_filter.1 ((riseL_mem _ _).1 hp)
    exact .base this.1 this.2
   have := Rch.le (riseL_ris _) h1
   exact ⟨riseL (l.filter (hasP M.L)), 0, _, by omega, riseL_ris _, h1, fun p hp hh => (riseL_mem _ _).2 (List.mem_filter.2 ⟨hp, hh⟩), e2, rfl, hb2, by omega, hkp2⟩
 clear e1 e2 e5 e6 hbox hk hkp hb2 hkp2 hl2 hn2 hft hdf
 rintro n T S4 ⟨cur, _, gc, hn, hris, hc1, hc2, e2, e5, hbox, a4, hkp⟩
 have hcl := Rch.le hris hc1
 have hdc := dT_len cur
 simp -implicitDefEqProofs (disch := omega) only [seval, go_sem, e2, e5, hbox, hdc]
 refine loW_inv (fun n2 T S' => ∃ (i k : Nat), n2 + i = cur.length /\ T 2 = .ptr S.n 0 /\ T 5 = .sl gc 1 (dT cur) /\ T 7 = .sl (.own k) 1 (dT (cur ++ ((cur.take i).flatMap (refsOf M.L)).filter (hasP M.L))) /\ T 8 = .lit (.int .i64 (i : Int)) /\ S'.objs S.n = .cells 66 [.sl .none 1 (gD fW), .sl .none 1 (gD kW), .sl .none 4 (dR M.L), .sl .none 1 (dT M.roots), .lit (w64 M.ver), .sl .none 2 (dC M.tc)] /\ S'.objs k = .lin /\ S.n < k /\ k < S'.n /\ Keep S S') cur.length ?_ ?_
 · refine ⟨0, S4.n, rfl, e2, e5, ?_, rfl, psh_old0 hbox (by omega), push_self _ _, a4, Nat.lt_succ_self _, hkp.push' _⟩
   rw [List.take_zero, List.flatMap_nil, List.filter_nil, List.append_nil]
   rfl
 clear e2 e5 hbox hkp a4
 rintro n2 T S5 ⟨i, k, hi2, e2, e5, e7, e8, hbox, hk, a1, b1, hkp⟩
 have hml : (cur ++ ((cur.take i).flatMap (refsOf M.L)).filter (hasP M.L)).length <= 26000 := by
  have h1 := more_len hr (cur.take i)
  have h2 := List.length_filter_le (hasP M.L) ((cur.take i).flatMap (refsOf M.L))
  rw [List.length_take] at h1
  rw [List.length_append]
  omega
 have hdm := dT_len (cur ++ ((cur.take i).flatMap (refsOf M.L)).filter (hasP M.L))
 by_cases hci : i < cur.length
 · have hx := dT_get hci
   have htk := take_succ_D cur (i := i) [] hci
   generalize cur.getD i [] = q at *
   simp -implicitDefEqProofs (disch := omega) only [seval, go_sem, e2, e5, e7, e8, hbox, hdc, hx]
   refine drW_at [(0, 0), (1, 0), (2, 0), (3, 0), (4, 0), (5, 2), (6, 0)] followsN (by kernel_rfl) ?_
   simp -implicitDefEqProofs (disch := omega) only [seval, go_sem, e2, e5, e7, e8, hbox, hdc, hx]
   refine c_r10_Refs (M := M) ?_ hb
   have hrs := refs_of_le hr q
   have hdq := dT_len (refsOf M.L q)
   simp -implicitDefEqProofs (disch := omega) only [seval, go_sem, e2, e5, e7, e8, hbox, hdc, hx]
   refine loW_inv (fun n3 T S' => ∃ (j k : Nat), n3 + j = (refsOf M.L q).length /\ T 2 = .ptr S.n 0 /\ T 5 = .sl gc 1 (dT cur) /\ T 7 = .sl (.own k) 1 (dT ((cur ++ ((cur.take i).flatMap (refsOf M.L)).filter (hasP M.L)) ++ ((refsOf M.L q).take j).filter (hasP M.L))) /\ T 8 = .lit (.int .i64 (i : Int)) /\ T 9 = .sl .none 1 (dT (refsOf M.L q)) /\ T 10 = .lit (.int .i64 (j : Int)) /\ S'.objs S.n = .cells 66 [.sl .none 1 (gD fW), .sl .none 1 (gD kW), .sl .none 4 (dR M.L), .sl .none 1 (dT M.roots), .lit (w64 M.ver), .sl .none 2 (dC M.tc)] /\ S'.objs k = .lin /\ S.n < k /\ k < S'.n /\ Keep S S') (refsOf M.L q).length ?_ ?_
   · refine ⟨0, k, rfl, e2, e5, ?_, e8, rfl, rfl, hbox, hk, a1, b1, hkp⟩
     rw [List.take_zero, List.filter_nil, List.append_nil]
     exact e7
   clear e2 e5 e7 e8 hbox hk a1 b1 hkp
   rintro n3 T S6 ⟨j, k, hj, e2, e5, e7, e8, e9, e10, hbox, hk, a1, b1, hkp⟩
   have hml2 : ((cur ++ ((cur.take i).flatMap (refsOf M.L)).filter (hasP M.L)) ++ ((refsOf M.L q).take j).filter (hasP M.L)).length <= 27000 := by
    have h2 := List.length_filter_le (hasP M.L) ((refsOf M.L q).take j)
    rw [List.length_take] at h2
    rw [List.length_append]
    omega
   have hdm2 := dT_len ((cur ++ ((cur.take i).flatMap (refsOf M.L)).filter (hasP M.L)) ++ ((refsOf M.L q).take j).filter (hasP M.L))
   by_cases hcj : j < (refsOf M.L q).length
   · have hy := dT_get hcj
     have htj := take_succ_D (refsOf M.L q) (i := j) [] hcj
     generalize (refsOf M.L q).getD j [] = z at *
     generalize hW : (cur ++ ((cur.take i).flatMap (refsOf M.L)).filter (hasP M.L)) ++ ((refsOf M.L q).take j).filter (hasP M.L) = W at *
     simp -implicitDefEqProofs (disch := omega) only [seval, go_sem, e2, e5, e7, e8, e9, e10, hbox, hdc, hdq, hy]
     refine drW_at [(0, 0), (1, 0), (2, 0), (3, 0), (4, 0), (5, 2)] followsN (by kernel_rfl) ?_
     simp -implicitDefEqProofs (disch := omega) only [seval, go_sem, e2, e5, e7, e8, e9, e10, hbox, hdc, hdq, hy]
     refine c_r10_Has (M := M) ?_ hb
     cases hz : hasP M.L z with
     | true =>
      simp -implicitDefEqProofs (disch := omega) only [seval, go_sem, e2, e5, e7, e8, e9, e10, hbox, hdc, hdq, hy, hk, hdm2]
      refine ⟨n3 - 1, by omega, j + 1, S6.n, by omega, e2, e5, ?_, e8, e9, rfl, psh_old0 ((st_old _ (by omega)).trans hbox) (by show S.n < S6.n; omega), push_self _ _, by omega, Nat.lt_succ_self _, (hkp.set (by omega) _).push' _⟩
      rw [htj, List.filter_append, List.filter_cons, if_pos hz, ← List.append_assoc, hW, dT_app]; rfl
     | false =>
      simp -implicitDefEqProofs (disch := omega) only [seval, go_sem, e2, e5, e7, e8, e9, e10, hbox, hdc, hdq, hy, hk, hdm2]
      refine ⟨n3 - 1, by omega, j + 1, k, by omega, e2, e5, ?_, e8, e9, rfl, hbox, hk, a1, b1, hkp⟩
      rw [htj, List.filter_append, List.filter_cons, if_neg (by rw [hz]; simp), List.filter_nil, List.append_nil, hW]
      exact e7
   · rw [List.take_of_length_le (l := refsOf M.L q) (i := j) (by omega)] at e7
     simp -implicitDefEqProofs (disch := omega) only [seval, go_sem, e2, e5, e7, e8, e9, e10, hbox, hdc, hdq]
     refine ⟨n2 - 1, by omega, i + 1, k, by omega, e2, e5, ?_, rfl, hbox, hk, a1, b1, hkp⟩
     rw [htk, List.flatMap_append, List.filter_append, List.flatMap_cons, List.flatMap_nil, List.append_nil, ← List.append_assoc]
     exact e7
 rw [List.take_of_length_le (by omega)] at e7 hml
 simp -implicitDefEqProofs (disch := omega) only [seval, go_sem, e2, e5, e7, e8, hbox, hdc]
 refine c_godownref01_Rise ?_ (by omega)
 have hds := dT_len (stepR M.L cur)
 have hss : riseL (cur ++ (cur.flatMap (refsOf M.L)).filter (hasP M.L)) = stepR M.L cur := rfl
 rw [hss]
 have hsub : ∀ x ∈ cur, x ∈ stepR M.L cur := fun x hx => (stepR_mem M.L cur x).2 (.inl hx)
 have hs1 : ∀ p ∈ stepR M.L cur, Rch M.L l p := fun p hp => by
  rcases (stepR_mem M.L cur p).1 hp with h | ⟨⟨q, hq, hpq⟩, hh⟩
  · exact hc1 p h
  · exact .step (hc1 q hq) hpq hh
 have hle := nodup_len (ris_nodup hris) hsub
 have hle2 := Rch.le (stepR_ris M.L cur) hs1
 by_cases he : (stepR M.L cur).length = cur.length
 · simp -implicitDefEqProofs (disch := omega) only [seval, go_sem, e2, e5, e7, e8, hbox, hdc, hds]
   rw [reach_fix hris hc1 hc2 he]
   exact ⟨_, .sl _ _ _, .slN _ _ _, hkp.push' _⟩
 · simp -implicitDefEqProofs (disch := omega) only [seval, go_sem, e2, e5, e7, e8, hbox, hdc, hds]
   exact ⟨M.L.length + 1 - (stepR M.L cur).length, by omega, stepR M.L cur, 0, _, by omega, stepR_ris _ _, hs1, fun p hp hh => hsub p (hc2 p hp hh), e2, rfl, psh_old0 hbox (by omega), by show S.n < S5.n + 1; omega, hkp.push' _⟩
set_option maxRecDepth 8000 in
set_option maxHeartbeats 1000000 in
theorem c_r10_Sweep {K : TV -> TS -> Prop} (hK : K (.tup [refV (sweepM M).1, .sl .none 1 (dT (sweepM M).2)]) S) (hb : RefB M) (hML : M.L.length <= 100) (hr : ∀ r ∈ M.L, r.refs.length <= 255) (hrl : M.roots.length <= 1000) : TCall env 99 [refV M] S K := by
 refine TCall.toPureD (r := .tup [refV (sweepM M).1, .sl .none 1 (dT (sweepM M).2)]) ?_ hK
 have hdr := dR_len M.L
 rw [refV_mk M]
 refine TCall.w 45 [.cell 2 66, .tmp 3] Tryz.func99 rfl rfl rfl rfl (by kernel_rfl) rfl ?_
 simp -implicitDefEqProofs (disch := omega) only [seval, go_sem]
 have hbox : ((S.push (.cells 66 [.sl .none 1 (gD fW), .sl .none 1 (gD kW), .sl .none 4 (dR M.L), .sl .none 1 (dT M.roots), .lit (w64 M.ver), .sl .none 2 (dC M.tc)])).push (.cells 66 [.sl .full 0 [], .sl .full 0 [], .sl .full 0 [], .sl .full 0 [], .lit (.int .u64 0), .sl .full 0 []])).objs S.n = .cells 66 [.sl .none 1 (gD fW), .sl .none 1 (gD kW), .sl .none 4 (dR M.L), .sl .none 1 (dT M.roots), .lit (w64 M.ver), .sl .none 2 (dC M.tc)] := psh_old0 (push_self _ _) (Nat.lt_succ_self _)
 have hres : ((S.push (.cells 66 [.sl .none 1 (gD fW), .sl .none 1 (gD kW), .sl .none 4 (dR M.L), .sl .none 1 (dT M.roots), .lit (w64 M.ver), .sl .none 2 (dC M.tc)])).push (.cells 66 [.sl .full 0 [], .sl .full 0 [], .sl .full 0 [], .sl .full 0 [], .lit (.int .u64 0), .sl .full 0 []])).objs (S.n + 1) = .cells 66 [.sl .full 0 [], .sl .full 0 [], .sl .full 0 [], .sl .full 0 [], .lit (.int .u64 0), .sl .full 0 []] := push_self (S.push _) _
 have hkp : Keep S ((S.push (.cells 66 [.sl .none 1 (gD fW), .sl .none 1 (gD kW), .sl .none 4 (dR M.L), .sl .none 1 (dT M.roots), .lit (w64 M.ver), .sl .none 2 (dC M.tc)])).push (.cells 66 [.sl .full 0 [], .sl .full 0 [], .sl .full 0 [], .sl .full 0 [], .lit (.int .u64 0), .sl .full 0 []])) := (Keep.push _ _).push' _
 have hn1 : ((S.push (.cells 66 [.sl .none 1 (gD fW), .sl .none 1 (gD kW), .sl .none 4 (dR M.L), .sl .none 1 (dT M.roots), .lit (w64 M.ver), .sl .none 2 (dC M.tc)])).push (.cells 66 [.sl .full 0 [], .sl .full 0 [], .sl .full 0 [], .sl .full 0 [], .lit (.int .u64 0), .sl .full 0 []])).n = S.n + 2 := rfl
 generalize (S.push (.cells 66 [.sl .none 1 (gD fW), .sl .none 1 (gD kW), .sl .none 4 (dR M.L), .sl .none 1 (dT M.roots), .lit (w64 M.ver), .sl .none 2 (dC M.tc)])).push (.cells 66 [.sl .full 0 [], .sl .full 0 [], .sl .full 0 [], .sl .full 0 [], .lit (.int .u64 0), .sl .full 0 []]) = S1 at *
 refine c_r10_Reach (M := M) ?_ hb hML hr hrl
 have hlv : (reachL M.L M.roots).length <= 100 := Nat.le_trans (reach_len _ _) hML
 simp -implicitDefEqProofs (disch := omega) only [seval, go_sem, hbox, hres]
 unfold sweepM
 generalize reachL M.L M.roots = lv at *
 refine loW.asRow 5 1 rfl (.inl rfl) ?_
 refine loW_inv (fun n T S' => ∃ (i k : Nat), n + i = M.L.length /\ T 1 = .ptr S.n 0 /\ T 2 = .ptr (S.n + 1) 0 /\ T 4 = .sl .none 1 (dT lv) /\ T 5 = .sl (.own k) 1 (dT ((pathsOf (M.L.take i)).filter fun p => !decide (p ∈ lv))) /\ T 6 = .lit (.int .i64 (i : Int)) /\ S'.objs S.n = .cells 66 [.sl .none 1 (gD fW), .sl .none 1 (gD kW), .sl .none 4 (dR M.L), .sl .none 1 (dT M.roots), .lit (w64 M.ver), .sl .none 2 (dC M.tc)] /\ S'.objs (S.n + 1) = .cells 66 [.sl .full 0 [], .sl .full 0 [], .sl .full 0 [], .sl .full 0 [], .lit (.int .u64 0), .sl .full 0 []] /\ S'.objs k = .lin /\ S.n + 1 < k /\ k < S'.n /\ Keep S S') M.L.length ?_ ?_
 · exact ⟨0, S1.n, rfl, rfl, rfl, rfl, rfl, rfl, psh_old0 hbox (by omega), psh_old0 hres (by omega), push_self _ _, by omega, Nat.lt_succ_self _, hkp.push' _⟩
 clear hbox hres hkp
 rintro n T S2 ⟨i, k, hi, e1, e2, e4, e5, e6, hbox, hres, hk, a1, b1, hkp⟩
 have hft : ((pathsOf (M.L.take i)).filter fun p => !decide (p ∈ lv)).length <= i := Nat.le_trans (List.length_filter_le _ _) (by rw [pathsOf, List.length_map, List.length_take]; omega)
 have hdf := dT_len ((pathsOf (M.L.take i)).filter fun p => !decide (p ∈ lv))
 by_cases hc : i < M.L.length
 · have hx := dR_get hc
   have htk := take_succ_D M.L (i := i) default hc
   generalize M.L.getD i default = r at *
   rw [rowD_mk] at hx
   simp -implicitDefEqProofs (disch := omega) only [seval, go_sem, e1, e2, e4, e5, e6, hbox, hdr, hx]
   refine c_godownref01_Has ?_
   by_cases hm : r.path ∈ lv
   · rw [decide_eq_true hm]
     simp -implicitDefEqProofs (disch := omega) only [seval, go_sem, e1, e2, e4, e5, e6, hbox, hdr, hx]
     refine ⟨n - 1, by omega, i + 1, k, by omega, e1, e2, e4, ?_, rfl, hbox, hres, hk, a1, b1, hkp⟩
     rw [htk, pathsOf_app, List.filter_append, show pathsOf [r] = [r.path] from rfl, List.filter_cons, if_neg (by rw [decide_eq_true hm]; simp), List.filter_nil, List.append_nil]
     exact e5
   · rw [decide_eq_false hm]
     simp -implicitDefEqProofs (disch := omega) only [seval, go_sem, e1, e2, e4, e5, e6, hbox, hdr, hx, hk, hdf]
     refine ⟨n - 1, by omega, i + 1, S2.n, by omega, e1, e2, e4, ?_, rfl, psh_old0 ((st_old _ (by omega)).trans hbox) (by show S.n < S2.n; omega), psh_old0 ((st_old _ (by omega)).trans hres) (by show S.n + 1 < S2.n; omega), push_self _ _, by omega, Nat.lt_succ_self _, (hkp.set (by omega) _).push' _⟩
     rw [htk, pathsOf_app, List.filter_append, show pathsOf [r] = [r.path] from rfl, List.filter_cons, if_pos (by rw [decide_eq_false hm]; rfl), dT_app]; rfl
 rw [List.take_of_length_le (by omega)] at e5 hft hdf
 generalize hgg : (pathsOf M.L).filter (fun p => !decide (p ∈ lv)) = gone at *
 by_cases h0 : gone = []
 · rw [if_pos h0]
   have h00 : gone.length = 0 := by rw [h0]; rfl
   simp -implicitDefEqProofs (disch := omega) only [seval, go_sem, e1, e2, e4, e5, e6, hbox, hres, hdr, hdf]
   refine ⟨_, resCell (id := S.n + 1) e2 ti66 (TS.set_same' _ _ _) rfl rfl, ?_⟩
   exact ⟨.tup [refV M, .sl .none 1 (dT [])], .tupF (.cons (.refl _) (.cons (.sl0 _ _ _) .nil)), .tupF (.cons (ren_refV _ _ M) (.cons (.slN _ _ _) .nil)), hkp.set (by omega) _⟩
 · rw [if_neg h0]
   have h00 : 0 < gone.length := List.length_pos_iff.2 h0
   simp -implicitDefEqProofs (disch := omega) only [seval, go_sem, e1, e2, e4, e5, e6, hbox, hres, hdr, hdf]
   refine c_r10_cut (M := M) ?_ hb (by omega) hr (by omega)
   simp -implicitDefEqProofs (disch := omega) only [seval, go_sem, e1, e2, e4, e5, e6, hbox, hres, hdr, hdf]
   refine c_godownref01_Rise ?_ (by omega)
   rw [refV_mk (cutM M gone)]
   simp -implicitDefEqProofs (disch := omega) only [seval, go_sem, e1, e2, e4, e5, e6, psh_old0 hres (show S.n + 1 < S2.n by omega)]
   refine ⟨_, resCell (id := S.n + 1) e2 ti66 (psh_old0 (TS.set_same' _ _ _) (by show S.n + 1 < S2.n; omega)) rfl rfl, ?_⟩
   exact ⟨.tup [refV (cutM M gone), .sl .none 1 (dT (riseL gone))], .tupF (.cons (.refl _) (.cons (.sl _ _ _) .nil)), .tupF (.cons (ren_refV _ _ (cutM M gone)) (.cons (.slN _ _ _) .nil)), (hkp.set (by omega) _).push' _⟩
end
end Go.Proofs.YtoldjfappfbfbaaGreatDoor
namespace Go.Proofs.YtoldjfappfbfbaaGreatDoor
open Go.RowKit TL
theorem refr_mem {L : List RowM} {p q : Bs} : p ∈ referrersL L q ↔ backB L q p = true := by
 rw [backB_iff, referrersL, riseL_mem, pathsOf, List.mem_map]
 constructor
 · rintro ⟨r, hr, rfl⟩
   have := List.mem_filter.1 hr
   exact ⟨r, this.1, rfl, by simpa using this.2⟩
 · rintro ⟨r, hr, rfl, hq⟩
   exact ⟨r, List.mem_filter.2 ⟨hr, by simpa using hq⟩, rfl⟩
theorem Inv.refr {M : StM} (h : Inv M) (q : Bs) : (referrersL M.L q).length <= 64 /\ ∀ p ∈ referrersL M.L q, p.length <= 1000000 := by
 refine ⟨?_, fun p hp => ?_⟩
 · have h1 := riseL_len (pathsOf (M.L.filter fun r => decide (q ∈ r.refs)))
   have h2 : (pathsOf (M.L.filter fun r => decide (q ∈ r.refs))).length <= M.L.length := by
    rw [pathsOf, List.length_map]; exact List.length_filter_le _ _
   have := h.ll
   show (riseL _).length <= 64
   omega
 · rw [refr_mem, backB_iff] at hp
   obtain ⟨r, hr, rfl, _⟩ := hp
   exact Nat.le_trans (h.rb r hr).pt (by decide)
theorem Inv.refs {M : StM} (h : Inv M) (p : Bs) : (refsOf M.L p).length <= 255 := by
 unfold refsOf
 cases hr : rowAt M.L p with
 | none => simp
 | some r => exact refs255 (h.wf.fit r (rowAt_path hr).2)
end Go.Proofs.YtoldjfappfbfbaaGreatDoor
namespace Go.Proofs.YtoldjfappfbfbaaGreatDoor
open Go.RowKit TL
set_option maxRecDepth 8000 in
set_option maxHeartbeats 1000000 in
theorem c_like {S : TS} {s : Nat} {I : StI} {M : StM} {made : List RowM} {gm : Tag} {K : TV -> TS -> Prop} (h : StOk S s I M) (hv : Inv M) (hb : RefB M) (hm : ∀ r ∈ made, RowB r) (hml : made.length <= 1000) (hK : K (.lit (.bool true)) S) :
 TCall env 53 [.ptr s 0, refV M, .sl gm 4 (dR made)] S K := by
 refine TCall.toPure (r := .lit (.bool true)) ?_ hK
 have hdr := dR_len made
 have hmu := hv.mu
 have hll := hv.ll
 have hrl := hv.rl
 have h255 : ∀ r ∈ M.L, r.refs.length <= 255 := fun r hr => refs255 (hv.wf.fit r hr)
 rw [refV_mk]
 refine TCall.w 103 [.tmp 6] Tryz.func53 rfl rfl rfl rfl (by kernel_rfl) rfl ?_
 simp -implicitDefEqProofs (disch := omega) only [seval, go_sem]
 have hbox : (S.push (.cells 66 [.sl .none 1 (gD fW), .sl .none 1 (gD kW), .sl .none 4 (dR M.L), .sl .none 1 (dT M.roots), .lit (w64 M.ver), .sl .none 2 (dC M.tc)])).objs S.n = .cells 66 [.sl .none 1 (gD fW), .sl .none 1 (gD kW), .sl .none 4 (dR M.L), .sl .none 1 (dT M.roots), .lit (w64 M.ver), .sl .none 2 (dC M.tc)] := push_self _ _
 have hkp : Keep S (S.push (.cells 66 [.sl .none 1 (gD fW), .sl .none 1 (gD kW), .sl .none 4 (dR M.L), .sl .none 1 (dT M.roots), .lit (w64 M.ver), .sl .none 2 (dC M.tc)])) := Keep.push _ _
 generalize S.push (.cells 66 [.sl .none 1 (gD fW), .sl .none 1 (gD kW), .sl .none 4 (dR M.L), .sl .none 1 (dT M.roots), .lit (w64 M.ver), .sl .none 2 (dC M.tc)]) = S1 at *
 have h1 : StOk S1 s I M := StG.keep h hkp
 refine drW_at [(0, 0), (2, 0), (1, 1), (3, 2), (4, 2), (5, 0), (6, 0), (7, 0), (9, 0), (10, 0), (8, 1), (11, 2), (12, 0), (13, 0), (14, 0), (15, 0), (17, 0), (18, 0), (16, 1), (19, 0), (20, 0), (21, 0), (22, 0), (23, 2), (24, 0), (25, 0), (26, 0), (27, 0), (29, 0), (30, 0), (31, 0), (28, 1), (32, 2), (33, 2), (34, 0), (35, 0)] followsN (by kernel_rfl) ?_
 simp -implicitDefEqProofs (disch := omega) only [seval, go_sem, hbox]
 refine c_Paths h1 (by omega) hv.pb6 ?_
 simp -implicitDefEqProofs (disch := omega) only [seval, go_sem, hbox]
 refine c_r10_Paths (M := M) ?_ hb (by omega)
 simp -implicitDefEqProofs (disch := omega) only [seval, go_sem, hbox]
 refine c_godownref01_Texts ?_ (Nat.le_trans (riseL_len _) (by simp [pathsOf]; omega))
 rw [decide_eq_true rfl]
 simp -implicitDefEqProofs (disch := omega) only [seval, go_sem, hbox]
 refine c_Roots h1 hv.wf.rs (by omega) (fun p hp => Nat.le_trans (hv.rpb p hp) (by decide)) ?_
 simp -implicitDefEqProofs (disch := omega) only [seval, go_sem, hbox]
 refine c_godownref01_Texts ?_ (by omega)
 rw [decide_eq_true rfl]
 simp -implicitDefEqProofs (disch := omega) only [seval, go_sem, hbox]
 refine c_Version h1 ?_
 simp -implicitDefEqProofs (disch := omega) only [seval, go_sem, hbox]
 refine c_Check h1 hv.wf hv.stb ?_
 simp -implicitDefEqProofs (disch := omega) only [seval, go_sem, hbox]
 refine c_Live h1 hv.wf.rs (by omega) (fun q hq => Nat.le_trans (hv.rpb q hq) (by decide)) (by omega) (Nat.le_trans (hv.reach _) (by decide)) hv.pb6 ?_
 simp -implicitDefEqProofs (disch := omega) only [seval, go_sem, hbox]
 refine c_r10_Reach (M := M) ?_ hb (by omega) h255 (by omega)
 simp -implicitDefEqProofs (disch := omega) only [seval, go_sem, hbox]
 refine c_godownref01_Texts ?_ (Nat.le_trans (hv.reach _) (by decide))
 rw [decide_eq_true rfl]
 simp -implicitDefEqProofs (disch := omega) only [seval, go_sem, hbox]
 refine loW_inv (fun n T S' => ∃ i : Nat, n + i = made.length /\ S' = S1 /\ T 0 = .ptr s 0 /\ T 2 = .sl gm 4 (dR made) /\ T 4 = .ptr S.n 0 /\ T 7 = .lit (.int .i64 (i : Int))) made.length ?_ ?_
 · exact ⟨0, rfl, rfl, rfl, rfl, rfl, rfl⟩
 rintro n T S2 ⟨i, hi, rfl, e0, e2, e4, e7⟩
 by_cases hc : i < made.length
 · have hx := dR_get hc
   generalize made.getD i default = r at *
   rw [rowD_mk] at hx
   simp -implicitDefEqProofs (disch := omega) only [seval, go_sem, e0, e2, e4, e7, hbox, hdr, hx]
   refine drW_at [(0,0),(1,0),(3,0),(4,0),(2,1),(5,2),(6,0),(7,0),(8,0),(9,0),(11,0),(12,0),(10,1),(13,2),(14,2),(15,0),(16,0),(17,0),(18,0),(19,0),(21,0),(22,0),(20,1),(23,2),(24,2),(25,0),(26,0),(27,0),(28,0),(29,0),(31,0),(32,0),(33,3),(30,1),(34,2),(35,2),(36,0),(37,0),(38,0),(39,0),(40,0),(42,0),(43,0),(41,1),(44,2),(45,0),(46,0)] followsN (by kernel_rfl) ?_
   simp -implicitDefEqProofs (disch := omega) only [seval, go_sem, e0, e2, e4, e7, hbox, hdr, hx]
   obtain ⟨hf1, hf2⟩ := hv.refr r.path
   have hrf := hv.refs r.path
   refine c_Has h1 ?_
   simp -implicitDefEqProofs (disch := omega) only [seval, go_sem, e0, e2, e4, e7, hbox, hdr, hx]
   refine c_r10_Has (M := M) ?_ hb
   simp -implicitDefEqProofs (disch := omega) only [seval, go_sem, e0, e2, e4, e7, hbox, hdr, hx]
   refine c_Refs h1 ?_ (by omega)
   simp -implicitDefEqProofs (disch := omega) only [seval, go_sem, e0, e2, e4, e7, hbox, hdr, hx]
   refine c_r10_Refs (M := M) ?_ hb
   simp -implicitDefEqProofs (disch := omega) only [seval, go_sem, e0, e2, e4, e7, hbox, hdr, hx]
   refine c_godownref01_Texts ?_ (by omega)
   rw [decide_eq_true rfl]
   simp -implicitDefEqProofs (disch := omega) only [seval, go_sem, e0, e2, e4, e7, hbox, hdr, hx]
   refine c_Referrers (l := referrersL M.L r.path) h1 (riseL_ris _) (fun p => refr_mem) (by omega) hf2 ?_
   simp -implicitDefEqProofs (disch := omega) only [seval, go_sem, e0, e2, e4, e7, hbox, hdr, hx]
   refine c_r10_Referrers (M := M) ?_ hb (by omega) (fun r hr => Nat.le_trans (h255 r hr) (by decide))
   simp -implicitDefEqProofs (disch := omega) only [seval, go_sem, e0, e2, e4, e7, hbox, hdr, hx]
   refine c_godownref01_Texts ?_ (by omega)
   rw [decide_eq_true rfl]
   simp -implicitDefEqProofs (disch := omega) only [seval, go_sem, e0, e2, e4, e7, hbox, hdr, hx]
   refine c_Closure h1 (by omega) (Nat.le_trans (hv.reach _) (by decide)) hv.pb6 ?_
   simp -implicitDefEqProofs (disch := omega) only [seval, go_sem, e0, e2, e4, e7, hbox, hdr, hx]
   rw [show ([D.lit (.string (st r.path))] : List D) = dT [r.path] from rfl]
   refine c_r10_Reach (M := M) ?_ hb (by omega) h255 (by simp)
   simp -implicitDefEqProofs (disch := omega) only [seval, go_sem, e0, e2, e4, e7, hbox, hdr, hx]
   refine c_godownref01_Texts ?_ (Nat.le_trans (hv.reach _) (by decide))
   rw [decide_eq_true rfl]
   simp -implicitDefEqProofs (disch := omega) only [seval, go_sem, e0, e2, e4, e7, hbox, hdr, hx]
   refine c_StampG h1 ?_
   simp -implicitDefEqProofs (disch := omega) only [seval, go_sem, e0, e2, e4, e7, hbox, hdr, hx]
   refine c_r10_Stamp (M := M) ?_ hb
   simp -implicitDefEqProofs (disch := omega) only [seval, go_sem, e0, e2, e4, e7, hbox, hdr, hx]
   exact ⟨n - 1, by omega, i + 1, by omega, rfl, e0, e2, e4, rfl⟩
 · simp -implicitDefEqProofs (disch := omega) only [seval, go_sem, e0, e2, e4, e7, hbox, hdr]
   exact ⟨.lit _, hkp⟩
end Go.Proofs.YtoldjfappfbfbaaGreatDoor
namespace Go.Proofs.YtoldjfappfbfbaaGreatDoor
open Go.RowKit TL
theorem sweep_l0 (M : StM) : (sweepM M).2.length <= M.L.length := by
 unfold sweepM
 split
 · exact Nat.zero_le _
 · refine Nat.le_trans (riseL_len _) (Nat.le_trans (List.length_filter_le _ _) ?_)
   simp [pathsOf]
theorem put_tc0 {M : StM} {l : List RowM} (hr : ∀ r ∈ l, r.refs.length <= 255) : (putM M l).1.tc.length <= M.tc.length + 256 * l.length := by
 unfold putM
 split
 · exact Nat.le_add_right _ _
 split
 · exact Nat.le_add_right _ _
 show (M.tc ++ List.map _ _).length <= _
 have h1 := touch_len (fr := (putF M.L l []).2) fun r h => by
  rcases putF_sub M.L l [] r h with h | h
  · cases h
  · exact hr r h
 have h2 := putF_len M.L l []
 simp only [List.length_nil] at h2
 rw [List.length_append, List.length_map]
 omega
theorem root_tc0 (M : StM) (p : Bs) : (rootM M p).1.tc.length <= M.tc.length + 1 := by
 unfold rootM
 split
 · exact Nat.le_add_right _ _
 split
 · exact Nat.le_add_right _ _
 split
 · exact Nat.le_add_right _ _
 · show (M.tc ++ List.map _ _).length <= _
   rw [List.length_append]
   exact Nat.le_refl _
theorem unroot_tc0 (M : StM) (p : Bs) : (unrootM M p).1.tc.length <= M.tc.length + 1 := by
 unfold unrootM
 split
 · show (M.tc ++ List.map _ _).length <= _
   rw [List.length_append]
   exact Nat.le_refl _
 · exact Nat.le_add_right _ _
theorem cut_tc0 {M : StM} (hr : ∀ r ∈ M.L, r.refs.length <= 255) (g : List Bs) : (cutM M g).tc.length <= M.tc.length + 256 * M.L.length := by
 show (M.tc ++ List.map _ _).length <= _
 have h1 := touch_len (fr := M.L.filter fun r => decide (r.path ∈ g)) fun r h => hr r (List.mem_filter.1 h).1
 have h2 := List.length_filter_le (fun r : RowM => decide (r.path ∈ g)) M.L
 rw [List.length_append, List.length_map]
 omega
theorem delete_tc0 {M : StM} (hr : ∀ r ∈ M.L, r.refs.length <= 255) (p : Bs) : (deleteM M p).1.tc.length <= M.tc.length + 256 * M.L.length := by
 unfold deleteM
 split
 · exact Nat.le_add_right _ _
 split
 · exact Nat.le_add_right _ _
 · exact cut_tc0 hr _
theorem sweep_tc0 {M : StM} (hr : ∀ r ∈ M.L, r.refs.length <= 255) : (sweepM M).1.tc.length <= M.tc.length + 256 * M.L.length := by
 unfold sweepM
 split
 · exact Nat.le_add_right _ _
 · exact cut_tc0 hr _
theorem rowG_B {ars : List Bs} {made : List RowM} (ha : ∀ x ∈ ars, x.length <= 1000000) (h : ∀ r ∈ made, RowB r) (x : ActM) : RowB (rowG ars made x) /\ (rowG ars made x).refs.length <= 255 := by
 have h1 := names3_ok (x.a.toNat % 3) (Nat.mod_lt _ (by decide))
 have hrl : (riseL (refsM made x.b.toNat (x.more.toNat % 4))).length <= 4 := by
  have := riseL_len (refsM made x.b.toNat (x.more.toNat % 4))
  rw [refsM_len] at this
  omega
 refine ⟨⟨by show (names3.getD (x.a.toNat % 3) []).length <= _; omega, ?_, ?_, ?_, ?_⟩, ?_⟩
 · show (ars.getD (x.b.toNat % ars.length) []).length <= _
   rw [List.getD_eq_getElem?_getD]
   cases he : ars[x.b.toNat % ars.length]? with
   | none => exact Nat.zero_le _
   | some x => exact ha x (List.mem_of_getElem? he)
 · show (riseL (refsM made x.b.toNat (x.more.toNat % 4))).length <= _
   omega
 · intro q hq
   obtain ⟨r, hr, rfl⟩ := List.mem_map.1 (refsM_mem ((riseL_mem _ _).1 hq))
   exact (h r hr).pt
 · show (_ ++ _ : Bs).length <= _
   rw [List.length_append]
   have e1 : (if 250 <= x.more.toNat then [UInt8.toBitVec 120] else []).length <= 1 := by split <;> simp
   have e2 : (if refsOk (riseL (refsM made x.b.toNat (x.more.toNat % 4))) = true then mkP (names3.getD (x.a.toNat % 3) []) (ars.getD (x.b.toNat % ars.length) []) (riseL (refsM made x.b.toNat (x.more.toNat % 4))) else []).length <= 100 := by
    split
    · rw [mkP_len]; omega
    · simp
   omega
 · show (riseL (refsM made x.b.toNat (x.more.toNat % 4))).length <= _
   omega
theorem kp_pp (P : TS) : KpL (P.push .lin) ((P.push .gone).push .lin) := by
 have := KpL.grow (S := P.push .lin) (k := P.n) (push_self _ _) .lin
 rw [push_set] at this
 exact this
theorem act_fin {S S6 S7 : TS} {s : Nat} {I I' : StI} {M M' : StM} {o : TObj} (h : StOk S s I M) (hk6 : Keep S S6) (hn6 : S.n + 4 <= S6.n) (g7 : StOk S7 s I' M') (t7 : StTo S6 S7 s I I') : StOk (S7.set (S.n + 3) o) s I' M' /\ StTo S (S7.set (S.n + 3) o) s I I' := by
 have hn7 := t7.fr.n
 refine ⟨StG.fr g7 (Nat.le_refl _) fun id hid => st_old _ ?_, ⟨⟨?_, fun id hlt hno => ?_⟩, fun id hid => ?_⟩⟩
 · rcases t7.sub id hid with hh | hh
   · have := StG.flt h id hh; omega
   · omega
 · show S.n <= S7.n
   omega
 · rw [st_old _ (by omega), t7.fr.o id (by omega) hno, hk6.2 id hlt]
 · rcases t7.sub id hid with hh | hh
   · exact .inl hh
   · exact .inr (by omega)
set_option maxRecDepth 8000 in
set_option maxHeartbeats 1000000 in
theorem c_act {S : TS} {s : Nat} {I : StI} {M : StM} {ars : List Bs} {made : List RowM} {x : ActM} {gm : Tag} {K : TV -> TS -> Prop} (h : StOk S s I M) (hv : Inv M) (hb : RefB M) (har : ArsB ars) (hm : ∀ r ∈ made, RowB r) (hml : made.length <= 60)
 (hK : ∀ S' I' M' made' g, StOk S' s I' M' -> StTo S S' s I I' -> Inv M' -> M'.tc.length <= M.tc.length + 16640 -> (∀ r ∈ made', RowB r) -> made'.length <= made.length + 3 -> K (.tup [refV M', .sl g 4 (dR made'), .lit (.bool true)]) S') :
 TCall env 52 [.ptr s 0, refV M, worldV ars, .sl gm 4 (dR made), actV x] S K := by
 have hdr := dR_len made
 have hll := hv.ll
 have hrl := hv.rl
 have h255 : ∀ r ∈ M.L, r.refs.length <= 255 := fun r hr => refs255 (hv.wf.fit r hr)
 rw [refV_mk, worldV_mk, actV_mk]
 refine TCall.wp [1, 1] 172 [.cell 10 66, .tmp 11, .tmp 12] Tryz.func52 rfl rfl rfl rfl (by kernel_rfl) rfl ?_
 simp -implicitDefEqProofs (disch := omega) only [seval, go_sem]
 generalize hS4 : (((S.push (.cells 66 [.sl .none 1 (gD fW), .sl .none 1 (gD kW), .sl .none 4 (dR M.L), .sl .none 1 (dT M.roots), .lit (w64 M.ver), .sl .none 2 (dC M.tc)])).push (.cells 35 [.sl .none 1 (gD fW), .sl .none 1 (gD kW), .sl .none 1 (dBB ars), .sl .none 1 (dT names3), .sl .none 1 (dT [path0])])).push (.cells 92 [.lit (w8 x.do_), .lit (w8 x.a), .lit (w8 x.b), .lit (w8 x.more)])).push (.cells 66 [.sl .full 0 [], .sl .full 0 [], .sl .full 0 [], .sl .full 0 [], .lit (.int .u64 0), .sl .full 0 []]) = S4
 have hk4 : Keep S S4 := by rw [← hS4]; exact (((Keep.push _ _).push' _).push' _).push' _
 have hn4 : S4.n = S.n + 4 := by rw [← hS4]; rfl
 have ho6 : S4.objs S.n = .cells 66 [.sl .none 1 (gD fW), .sl .none 1 (gD kW), .sl .none 4 (dR M.L), .sl .none 1 (dT M.roots), .lit (w64 M.ver), .sl .none 2 (dC M.tc)] := by rw [← hS4]; exact psh_old0 (psh_old0 (psh_old0 (push_self _ _) (Nat.lt_succ_self _)) (by show S.n < S.n + 2; omega)) (by show S.n < S.n + 3; omega)
 have ho7 : S4.objs (S.n + 1) = .cells 35 [.sl .none 1 (gD fW), .sl .none 1 (gD kW), .sl .none 1 (dBB ars), .sl .none 1 (dT names3), .sl .none 1 (dT [path0])] := by rw [← hS4]; exact psh_old0 (psh_old0 (push_self (S.push _) _) (by show S.n + 1 < S.n + 2; omega)) (by show S.n + 1 < S.n + 3; omega)
 have ho9 : S4.objs (S.n + 2) = .cells 92 [.lit (w8 x.do_), .lit (w8 x.a), .lit (w8 x.b), .lit (w8 x.more)] := by rw [← hS4]; exact psh_old0 (push_self ((S.push _).push _) _) (by show S.n + 2 < S.n + 3; omega)
 have ho10 : S4.objs (S.n + 3) = .cells 66 [.sl .full 0 [], .sl .full 0 [], .sl .full 0 [], .sl .full 0 [], .lit (.int .u64 0), .sl .full 0 []] := by rw [← hS4]; exact push_self (((S.push _).push _).push _) _
 have h4 : StOk S4 s I M := StG.keep h hk4
 clear hS4
 have hnS : ∀ j, S.n <= j -> ¬ stF s I j := fun j hj hf => by have := StG.flt h j hf; omega
 refine stW.cut (fun T S' => ∃ pth : Bs, S' = S4 /\ T 0 = .ptr s 0 /\ T 3 = .sl gm 4 (dR made) /\ T 6 = .ptr S.n 0 /\ T 7 = .ptr (S.n + 1) 0 /\ T 9 = .ptr (S.n + 2) 0 /\ T 10 = .ptr (S.n + 3) 0 /\ T 13 = .lit (.string (st pth))) ?_ ?_
 · by_cases hm0 : 0 < made.length
   · have hlt2 : x.a.toNat % made.length < made.length := Nat.mod_lt _ hm0
     have htm : ((x.a.toNat : Int)).tmod (made.length : Int) = ((x.a.toNat % made.length : Nat) : Int) := (Int.ofNat_tmod _ _).symm
     have hx2 := dR_get hlt2
     generalize made.getD (x.a.toNat % made.length) default = r at *
     rw [rowD_mk] at hx2
     simp -implicitDefEqProofs (disch := omega) only [seval, go_sem, ho6, ho7, ho9, ho10, hdr, htm, hx2]
     exact ⟨r.path, rfl, rfl, rfl, rfl, rfl, rfl, rfl, rfl⟩
   · simp -implicitDefEqProofs (disch := omega) only [seval, go_sem, ho6, ho7, ho9, ho10, hdr]
     exact ⟨[UInt8.toBitVec 120], rfl, rfl, rfl, rfl, rfl, rfl, rfl, rfl⟩
 rintro T S5 ⟨pth, rfl, e0, e3, e6, e7, e9, e10, e13⟩
 have hd8 : (x.do_ % 8#8).toNat < 8 := by rw [BitVec.toNat_umod]; exact Nat.mod_lt _ (by decide)
 have hdq : (x.do_ / 8#8 % 3#8).toNat < 3 := by rw [BitVec.toNat_umod]; exact Nat.mod_lt _ (by decide)
 by_cases qa : (x.do_ % 8#8).toNat < 3
 · rcases (show (x.do_ % 8#8).toNat = 0 ∨ (x.do_ % 8#8).toNat = 1 ∨ (x.do_ % 8#8).toNat = 2 by omega) with q | q | q
   all_goals (
    simp -implicitDefEqProofs (disch := omega) only [seval, go_sem, e0, e3, e6, e7, e9, e10, e13, ho6, ho7, ho9, ho10, hdr]
    refine loW.asRow 14 4 rfl (.inl rfl) ?_
    refine loW_inv (fun n T S' => ∃ (i k : Nat) (l : List RowM), n + i = (x.do_ / 8#8 % 3#8).toNat + 1 /\ l.length = i /\ (∀ r ∈ l, RowB r /\ r.refs.length <= 255) /\ T 0 = .ptr s 0 /\ T 3 = .sl gm 4 (dR made) /\ T 6 = .ptr S.n 0 /\ T 7 = .ptr (S.n + 1) 0 /\ T 9 = .ptr (S.n + 2) 0 /\ T 10 = .ptr (S.n + 3) 0 /\ T 14 = .sl (.own k) 4 (dR l) /\ T 15 = .lit (.int .i64 (i : Int)) /\ S'.objs k = .lin /\ S5.n <= k /\ k < S'.n /\ Keep S5 S') ((x.do_ / 8#8 % 3#8).toNat + 1) ?_ ?_
    · exact ⟨0, S5.n, [], rfl, rfl, (fun r h => by cases h), e0, e3, e6, e7, e9, e10, rfl, rfl, push_self _ _, Nat.le_refl _, Nat.lt_succ_self _, Keep.push _ _⟩
    clear e0 e3 e6 e7 e9 e10 e13
    rintro n T S6 ⟨i, k, l, hi, hli, hlb, e0, e3, e6, e7, e9, e10, e14, e15, hok, hk2, hkn, hk6⟩
    have hn6 := hk6.1
    have p6 := (hk6.2 S.n (by omega)).trans ho6
    have p7 := (hk6.2 (S.n + 1) (by omega)).trans ho7
    have p9 := (hk6.2 (S.n + 2) (by omega)).trans ho9
    have p10 := (hk6.2 (S.n + 3) (by omega)).trans ho10
    have hdl := dR_len l
    by_cases hc : i <= (x.do_ / 8#8 % 3#8).toNat
    · simp -implicitDefEqProofs (disch := omega) only [seval, go_sem, e0, e3, e6, e7, e9, e10, e14, e15, p6, p7, p9, p10, hdr, hdl]
      refine drW_at [(0, 0), (1, 0), (2, 0), (3, 0), (4, 0), (5, 0), (6, 0), (7, 0), (8, 0), (9, 0), (10, 0), (11, 0), (12, 36), (13, 0), (14, 2)] followsN (by kernel_rfl) ?_
      have hy : ∀ o, (S6.push o).objs (S.n + 2) = .cells 92 [.lit (w8 x.do_), .lit (w8 x.a), .lit (w8 x.b), .lit (w8 x.more)] := fun o => psh_old0 p9 (by omega)
      simp -implicitDefEqProofs (disch := omega) only [seval, go_sem, e0, e3, e6, e7, e9, e10, e14, e15, p6, p7, p9, p10, hdr, hdl, hy]
      refine drW_at [(0, 0), (1, 0), (2, 0), (4, 0), (6, 0), (3, 1), (5, 1), (7, 1), (8, 1), (9, 2), (10, 0)] followsN (by kernel_rfl) ?_
      have hok1 : ∀ o, (S6.push o).objs k = .lin := fun o => psh_old0 hok hkn
      simp -implicitDefEqProofs (disch := omega) only [seval, go_sem, e0, e3, e6, e7, e9, e10, e14, e15, p6, p7, p9, p10, hdr, hdl, hy, hok1]
      refine ⟨rfl, rfl, kp_pp _, ?_⟩
      rw [← dR_app]
      have hmb2 : ∀ r ∈ made ++ l, RowB r := fun r hr => by
       rcases List.mem_append.1 hr with hr | hr
       · exact hm r hr
       · exact (hlb r hr).1
      have hrB := rowG_B har.b hmb2 ⟨x.do_, x.a + BitVec.ofNat 8 i, x.b + BitVec.ofNat 8 i * 3#8, x.more⟩
      refine c_row10 (x := ⟨x.do_, x.a + BitVec.ofNat 8 i, x.b + BitVec.ofNat 8 i * 3#8, x.more⟩) har hmb2 (by rw [List.length_append]; omega) ?_
      generalize rowG ars (made ++ l) ⟨x.do_, x.a + BitVec.ofNat 8 i, x.b + BitVec.ofNat 8 i * 3#8, x.more⟩ = r at *
      rw [rowN_mk]
      have hok2 : ∀ o o' o'', (((S6.push o).push o').push o'').objs k = .lin := fun o o' o'' => psh_old0 (psh_old0 (psh_old0 hok hkn) (by show k < S6.n + 1; omega)) (by show k < S6.n + 2; omega)
      simp -implicitDefEqProofs (disch := omega) only [seval, go_sem, e0, e3, e6, e7, e9, e10, e14, e15, p6, p7, p9, p10, hdr, hdl, hok2]
      refine ⟨rfl, n - 1, by omega, i + 1, S6.n + 1 + 1 + 1, l ++ [r], by omega, by simp [hli], ?_, e0, e3, e6, e7, e9, e10, ?_, rfl, push_self (TS.push _ _) _, by omega, Nat.lt_succ_self _, ((((hk6.set (by omega) _).push' _).push' _).push' _).push' _⟩
      · intro r' hr'
        rcases List.mem_append.1 hr' with hr' | hr'
        · exact hlb r' hr'
        · rw [List.mem_singleton.1 hr']; exact hrB
      · simp only [upd, dR_app]; simp; rfl
    · simp -implicitDefEqProofs (disch := omega) only [seval, go_sem, e0, e3, e6, e7, e9, e10, e14, e15, p6, p7, p9, p10, hdr, hdl, hok]
      refine c_r10_Put (M := M) ?_ hb hv.ll (by omega) hlb
      rw [refV_mk (putM M l).1]
      simp -implicitDefEqProofs (disch := omega) only [seval, go_sem, e0, e3, e6, e7, e9, e10, e14, e15, p6, p7, p9, p10, hdr, hdl, hok]
      refine drW_at [(0, 0), (1, 0), (3, 0), (5, 0), (6, 0), (8, 0), (2, 1), (4, 1), (7, 12), (9, 0), (10, 4), (11, 0), (12, 0)] followsN (by kernel_rfl) ?_
      generalize hS7 : S6.push (.cells 66 [.sl .none 1 (gD fW), .sl .none 1 (gD kW), .sl .none 4 (dR (putM M l).1.L), .sl .none 1 (dT (putM M l).1.roots), .lit (w64 (putM M l).1.ver), .sl .none 2 (dC (putM M l).1.tc)]) = S7
      have q6 : S7.objs S6.n = .cells 66 [.sl .none 1 (gD fW), .sl .none 1 (gD kW), .sl .none 4 (dR (putM M l).1.L), .sl .none 1 (dT (putM M l).1.roots), .lit (w64 (putM M l).1.ver), .sl .none 2 (dC (putM M l).1.tc)] := by rw [← hS7]; exact push_self _ _
      have q10 : S7.objs (S.n + 3) = .cells 66 [.sl .full 0 [], .sl .full 0 [], .sl .full 0 [], .sl .full 0 [], .lit (.int .u64 0), .sl .full 0 []] := by rw [← hS7]; exact psh_old0 p10 (by omega)
      have hk7 : Keep S5 S7 := by rw [← hS7]; exact hk6.push' _
      have hok7 : S7.objs k = .lin := by rw [← hS7]; exact psh_old0 hok hkn
      have hn7 : S7.n = S6.n + 1 := by rw [← hS7]; rfl
      clear hS7
      simp -implicitDefEqProofs (disch := omega) only [seval, go_sem, e0, e3, e6, e7, e9, e10, e14, e15, q6, q10, hdr, hdl, hok7]
      refine ⟨rfl, rfl, kp_pp _, ?_⟩
      generalize hS8 : (S7.push .gone).push .lin = S8
      have r6 : S8.objs S6.n = .cells 66 [.sl .none 1 (gD fW), .sl .none 1 (gD kW), .sl .none 4 (dR (putM M l).1.L), .sl .none 1 (dT (putM M l).1.roots), .lit (w64 (putM M l).1.ver), .sl .none 2 (dC (putM M l).1.tc)] := by rw [← hS8]; exact psh_old0 (psh_old0 q6 (by omega)) (by show S6.n < S7.n + 1; omega)
      have r10 : S8.objs (S.n + 3) = .cells 66 [.sl .full 0 [], .sl .full 0 [], .sl .full 0 [], .sl .full 0 [], .lit (.int .u64 0), .sl .full 0 []] := by rw [← hS8]; exact psh_old0 (psh_old0 q10 (by omega)) (by show S.n + 3 < S7.n + 1; omega)
      have hk8 : Keep S S8 := by rw [← hS8]; exact hk4.trans ((hk7.push' _).push' _)
      have hn8 : S8.n = S7.n + 2 := by rw [← hS8]; rfl
      have h8 : StOk S8 s I M := StG.keep h hk8
      clear hS8
      have hmb2 : ∀ r ∈ made ++ l, RowB r := fun r hr => by
       rcases List.mem_append.1 hr with hr | hr
       · exact hm r hr
       · exact (hlb r hr).1
      refine c_Put h8 hv.nd (fun r hr => (hlb r hr).1) (.inl rfl) (by omega) fun S9 I9 g9 t9 => ?_
      have r6a := t9.fr.o S6.n (by omega) (hnS _ (by omega))
      have r6b := r6a.trans r6
      have r10b := (t9.fr.o (S.n + 3) (by omega) (hnS _ (by omega))).trans r10
      simp -implicitDefEqProofs (disch := omega) only [seval, go_sem, e0, e3, e6, e7, e9, e10, e14, e15, r6, r6b, r10b, hdr, hdl]
      obtain ⟨a1, a2⟩ := act_fin (o := .cells 66 [.sl .none 1 (gD fW), .sl .none 1 (gD kW), .sl .none 4 (dR (putM M l).1.L), .sl .none 1 (dT (putM M l).1.roots), .lit (w64 (putM M l).1.ver), .sl .none 2 (dC (putM M l).1.tc)]) h hk8 (by omega) g9 t9
      have hiv := hv.put (fun r hr => (hlb r hr).1)
      have htc := put_tc0 (M := M) (l := l) fun r hr => (hlb r hr).2
      refine ⟨_, resCell (id := S.n + 3) e10 ti66 (TS.set_same' _ _ _) rfl rfl, ?_⟩
      rw [← dR_app]
      exact hK _ _ _ (made ++ l) _ a1 a2 hiv (by omega) hmb2 (by rw [List.length_append]; omega))
 by_cases q34 : (x.do_ % 8#8).toNat < 5
 · rcases (show (x.do_ % 8#8).toNat = 3 ∨ (x.do_ % 8#8).toNat = 4 by omega) with q | q
   all_goals (
    simp -implicitDefEqProofs (disch := omega) only [seval, go_sem, e0, e3, e6, e7, e9, e10, e13, ho6, ho7, ho9, ho10, hdr]
    refine c_r10_Root (M := M) ?_ hb hrl
    rw [refV_mk (rootM M pth).1]
    simp -implicitDefEqProofs (disch := omega) only [seval, go_sem, e0, e3, e6, e7, e9, e10, e13, ho6, ho7, ho9, ho10, hdr]
    refine drW_at [(0, 0), (1, 0), (2, 0), (3, 0), (5, 0), (4, 12), (6, 0), (7, 4), (8, 0), (9, 0)] followsN (by kernel_rfl) ?_
    generalize hS6 : S5.push (.cells 66 [.sl .none 1 (gD fW), .sl .none 1 (gD kW), .sl .none 4 (dR (rootM M pth).1.L), .sl .none 1 (dT (rootM M pth).1.roots), .lit (w64 (rootM M pth).1.ver), .sl .none 2 (dC (rootM M pth).1.tc)]) = S6
    have ho6' : S6.objs S5.n = .cells 66 [.sl .none 1 (gD fW), .sl .none 1 (gD kW), .sl .none 4 (dR (rootM M pth).1.L), .sl .none 1 (dT (rootM M pth).1.roots), .lit (w64 (rootM M pth).1.ver), .sl .none 2 (dC (rootM M pth).1.tc)] := by rw [← hS6]; exact push_self _ _
    have ho10' : S6.objs (S.n + 3) = .cells 66 [.sl .full 0 [], .sl .full 0 [], .sl .full 0 [], .sl .full 0 [], .lit (.int .u64 0), .sl .full 0 []] := by rw [← hS6]; exact psh_old0 ho10 (by omega)
    have hk6 : Keep S S6 := by rw [← hS6]; exact hk4.push' _
    have hn6 : S6.n = S5.n + 1 := by rw [← hS6]; rfl
    have h6 : StOk S6 s I M := StG.keep h hk6
    clear hS6
    simp -implicitDefEqProofs (disch := omega) only [seval, go_sem, e0, e3, e6, e7, e9, e10, e13, ho6', ho10']
    refine c_Root h6 hv.wf.rs fun S7 g7 t7 => ?_
    have ho6a := t7.fr.o S5.n (by omega) (hnS _ (by omega))
    have ho6b := ho6a.trans ho6'
    have ho10b := (t7.fr.o (S.n + 3) (by omega) (hnS _ (by omega))).trans ho10'
    simp -implicitDefEqProofs (disch := omega) only [seval, go_sem, e0, e3, e6, e7, e9, e10, e13, ho6', ho6b, ho10b]
    obtain ⟨a1, a2⟩ := act_fin (o := .cells 66 [.sl .none 1 (gD fW), .sl .none 1 (gD kW), .sl .none 4 (dR (rootM M pth).1.L), .sl .none 1 (dT (rootM M pth).1.roots), .lit (w64 (rootM M pth).1.ver), .sl .none 2 (dC (rootM M pth).1.tc)]) h hk6 (by omega) g7 t7
    have hiv := hv.root pth
    have htc := root_tc0 M pth
    refine ⟨_, resCell (id := S.n + 3) e10 ti66 (TS.set_same' _ _ _) rfl rfl, ?_⟩
    exact hK _ _ _ made gm a1 a2 hiv (by omega) hm (by omega))
 by_cases q5 : (x.do_ % 8#8).toNat = 5
 · simp -implicitDefEqProofs (disch := omega) only [seval, go_sem, e0, e3, e6, e7, e9, e10, e13, ho6, ho7, ho9, ho10, hdr]
   refine c_r10_Unroot (M := M) ?_ hb hrl
   rw [refV_mk (unrootM M pth).1]
   simp -implicitDefEqProofs (disch := omega) only [seval, go_sem, e0, e3, e6, e7, e9, e10, e13, ho6, ho7, ho9, ho10, hdr]
   refine drW_at [(0, 0), (1, 0), (2, 0), (3, 0), (5, 0), (4, 12), (6, 0), (7, 4), (8, 0), (9, 0)] followsN (by kernel_rfl) ?_
   generalize hS6 : S5.push (.cells 66 [.sl .none 1 (gD fW), .sl .none 1 (gD kW), .sl .none 4 (dR (unrootM M pth).1.L), .sl .none 1 (dT (unrootM M pth).1.roots), .lit (w64 (unrootM M pth).1.ver), .sl .none 2 (dC (unrootM M pth).1.tc)]) = S6
   have ho6' : S6.objs S5.n = .cells 66 [.sl .none 1 (gD fW), .sl .none 1 (gD kW), .sl .none 4 (dR (unrootM M pth).1.L), .sl .none 1 (dT (unrootM M pth).1.roots), .lit (w64 (unrootM M pth).1.ver), .sl .none 2 (dC (unrootM M pth).1.tc)] := by rw [← hS6]; exact push_self _ _
   have ho10' : S6.objs (S.n + 3) = .cells 66 [.sl .full 0 [], .sl .full 0 [], .sl .full 0 [], .sl .full 0 [], .lit (.int .u64 0), .sl .full 0 []] := by rw [← hS6]; exact psh_old0 ho10 (by omega)
   have hk6 : Keep S S6 := by rw [← hS6]; exact hk4.push' _
   have hn6 : S6.n = S5.n + 1 := by rw [← hS6]; rfl
   have h6 : StOk S6 s I M := StG.keep h hk6
   clear hS6
   simp -implicitDefEqProofs (disch := omega) only [seval, go_sem, e0, e3, e6, e7, e9, e10, e13, ho6', ho10']
   refine c_Unroot h6 hv.wf.rs fun S7 g7 t7 => ?_
   have ho6a := t7.fr.o S5.n (by omega) (hnS _ (by omega))
   have ho6b := ho6a.trans ho6'
   have ho10b := (t7.fr.o (S.n + 3) (by omega) (hnS _ (by omega))).trans ho10'
   simp -implicitDefEqProofs (disch := omega) only [seval, go_sem, e0, e3, e6, e7, e9, e10, e13, ho6', ho6b, ho10b]
   obtain ⟨a1, a2⟩ := act_fin (o := .cells 66 [.sl .none 1 (gD fW), .sl .none 1 (gD kW), .sl .none 4 (dR (unrootM M pth).1.L), .sl .none 1 (dT (unrootM M pth).1.roots), .lit (w64 (unrootM M pth).1.ver), .sl .none 2 (dC (unrootM M pth).1.tc)]) h hk6 (by omega) g7 t7
   have hiv := hv.unroot pth
   have htc := unroot_tc0 M pth
   refine ⟨_, resCell (id := S.n + 3) e10 ti66 (TS.set_same' _ _ _) rfl rfl, ?_⟩
   exact hK _ _ _ made gm a1 a2 hiv (by omega) hm (by omega)
 by_cases q6 : (x.do_ % 8#8).toNat = 6
 · simp -implicitDefEqProofs (disch := omega) only [seval, go_sem, e0, e3, e6, e7, e9, e10, e13, ho6, ho7, ho9, ho10, hdr]
   refine c_r10_Delete (M := M) ?_ hb (by omega) h255
   rw [refV_mk (deleteM M pth).1]
   simp -implicitDefEqProofs (disch := omega) only [seval, go_sem, e0, e3, e6, e7, e9, e10, e13, ho6, ho7, ho9, ho10, hdr]
   refine drW_at [(0, 0), (1, 0), (2, 0), (3, 0), (5, 0), (4, 12), (6, 0), (7, 4), (8, 0), (9, 0)] followsN (by kernel_rfl) ?_
   generalize hS6 : S5.push (.cells 66 [.sl .none 1 (gD fW), .sl .none 1 (gD kW), .sl .none 4 (dR (deleteM M pth).1.L), .sl .none 1 (dT (deleteM M pth).1.roots), .lit (w64 (deleteM M pth).1.ver), .sl .none 2 (dC (deleteM M pth).1.tc)]) = S6
   have ho6' : S6.objs S5.n = .cells 66 [.sl .none 1 (gD fW), .sl .none 1 (gD kW), .sl .none 4 (dR (deleteM M pth).1.L), .sl .none 1 (dT (deleteM M pth).1.roots), .lit (w64 (deleteM M pth).1.ver), .sl .none 2 (dC (deleteM M pth).1.tc)] := by rw [← hS6]; exact push_self _ _
   have ho10' : S6.objs (S.n + 3) = .cells 66 [.sl .full 0 [], .sl .full 0 [], .sl .full 0 [], .sl .full 0 [], .lit (.int .u64 0), .sl .full 0 []] := by rw [← hS6]; exact psh_old0 ho10 (by omega)
   have hk6 : Keep S S6 := by rw [← hS6]; exact hk4.push' _
   have hn6 : S6.n = S5.n + 1 := by rw [← hS6]; rfl
   have h6 : StOk S6 s I M := StG.keep h hk6
   clear hS6
   simp -implicitDefEqProofs (disch := omega) only [seval, go_sem, e0, e3, e6, e7, e9, e10, e13, ho6', ho10']
   refine c_Delete h6 hv.nd hv.rb fun S7 I7 g7 t7 => ?_
   have ho6a := t7.fr.o S5.n (by omega) (hnS _ (by omega))
   have ho6b := ho6a.trans ho6'
   have ho10b := (t7.fr.o (S.n + 3) (by omega) (hnS _ (by omega))).trans ho10'
   simp -implicitDefEqProofs (disch := omega) only [seval, go_sem, e0, e3, e6, e7, e9, e10, e13, ho6', ho6b, ho10b]
   obtain ⟨a1, a2⟩ := act_fin (o := .cells 66 [.sl .none 1 (gD fW), .sl .none 1 (gD kW), .sl .none 4 (dR (deleteM M pth).1.L), .sl .none 1 (dT (deleteM M pth).1.roots), .lit (w64 (deleteM M pth).1.ver), .sl .none 2 (dC (deleteM M pth).1.tc)]) h hk6 (by omega) g7 t7
   have hiv := hv.delete pth
   have htc := delete_tc0 (M := M) h255 pth
   refine ⟨_, resCell (id := S.n + 3) e10 ti66 (TS.set_same' _ _ _) rfl rfl, ?_⟩
   exact hK _ _ _ made gm a1 a2 hiv (by omega) hm (by omega)
 have q7 : (x.do_ % 8#8).toNat = 7 := by omega
 have hm4 : (x.more % 4#8).toNat < 4 := by rw [BitVec.toNat_umod]; exact Nat.mod_lt _ (by decide)
 by_cases qm : 0 < (x.more % 4#8).toNat
 · simp -implicitDefEqProofs (disch := omega) only [seval, go_sem, e0, e3, e6, e7, e9, e10, e13, ho6, ho7, ho9, ho10, hdr]
   refine c_r10_Delete (M := M) ?_ hb (by omega) h255
   rw [refV_mk (deleteM M pth).1]
   simp -implicitDefEqProofs (disch := omega) only [seval, go_sem, e0, e3, e6, e7, e9, e10, e13, ho6, ho7, ho9, ho10, hdr]
   refine drW_at [(0, 0), (1, 0), (2, 0), (3, 0), (5, 0), (4, 12), (6, 0), (7, 4), (8, 0), (9, 0)] followsN (by kernel_rfl) ?_
   generalize hS6 : S5.push (.cells 66 [.sl .none 1 (gD fW), .sl .none 1 (gD kW), .sl .none 4 (dR (deleteM M pth).1.L), .sl .none 1 (dT (deleteM M pth).1.roots), .lit (w64 (deleteM M pth).1.ver), .sl .none 2 (dC (deleteM M pth).1.tc)]) = S6
   have ho6' : S6.objs S5.n = .cells 66 [.sl .none 1 (gD fW), .sl .none 1 (gD kW), .sl .none 4 (dR (deleteM M pth).1.L), .sl .none 1 (dT (deleteM M pth).1.roots), .lit (w64 (deleteM M pth).1.ver), .sl .none 2 (dC (deleteM M pth).1.tc)] := by rw [← hS6]; exact push_self _ _
   have ho10' : S6.objs (S.n + 3) = .cells 66 [.sl .full 0 [], .sl .full 0 [], .sl .full 0 [], .sl .full 0 [], .lit (.int .u64 0), .sl .full 0 []] := by rw [← hS6]; exact psh_old0 ho10 (by omega)
   have hk6 : Keep S S6 := by rw [← hS6]; exact hk4.push' _
   have hn6 : S6.n = S5.n + 1 := by rw [← hS6]; rfl
   have h6 : StOk S6 s I M := StG.keep h hk6
   clear hS6
   simp -implicitDefEqProofs (disch := omega) only [seval, go_sem, e0, e3, e6, e7, e9, e10, e13, ho6', ho10']
   refine c_Delete h6 hv.nd hv.rb fun S7 I7 g7 t7 => ?_
   have ho6a := t7.fr.o S5.n (by omega) (hnS _ (by omega))
   have ho6b := ho6a.trans ho6'
   have ho10b := (t7.fr.o (S.n + 3) (by omega) (hnS _ (by omega))).trans ho10'
   simp -implicitDefEqProofs (disch := omega) only [seval, go_sem, e0, e3, e6, e7, e9, e10, e13, ho6', ho6b, ho10b]
   obtain ⟨a1, a2⟩ := act_fin (o := .cells 66 [.sl .none 1 (gD fW), .sl .none 1 (gD kW), .sl .none 4 (dR (deleteM M pth).1.L), .sl .none 1 (dT (deleteM M pth).1.roots), .lit (w64 (deleteM M pth).1.ver), .sl .none 2 (dC (deleteM M pth).1.tc)]) h hk6 (by omega) g7 t7
   have hiv := hv.delete pth
   have htc := delete_tc0 (M := M) h255 pth
   refine ⟨_, resCell (id := S.n + 3) e10 ti66 (TS.set_same' _ _ _) rfl rfl, ?_⟩
   exact hK _ _ _ made gm a1 a2 hiv (by omega) hm (by omega)
 · simp -implicitDefEqProofs (disch := omega) only [seval, go_sem, e0, e3, e6, e7, e9, e10, e13, ho6, ho7, ho9, ho10, hdr]
   refine c_r10_Sweep (M := M) ?_ hb (by omega) h255 (by omega)
   rw [refV_mk (sweepM M).1]
   simp -implicitDefEqProofs (disch := omega) only [seval, go_sem, e0, e3, e6, e7, e9, e10, e13, ho6, ho7, ho9, ho10, hdr]
   refine drW_at [(0, 0), (1, 0), (2, 0), (4, 0), (3, 12), (5, 1), (6, 4), (7, 0), (8, 0)] followsN (by kernel_rfl) ?_
   generalize hS6 : S5.push (.cells 66 [.sl .none 1 (gD fW), .sl .none 1 (gD kW), .sl .none 4 (dR (sweepM M).1.L), .sl .none 1 (dT (sweepM M).1.roots), .lit (w64 (sweepM M).1.ver), .sl .none 2 (dC (sweepM M).1.tc)]) = S6
   have ho6' : S6.objs S5.n = .cells 66 [.sl .none 1 (gD fW), .sl .none 1 (gD kW), .sl .none 4 (dR (sweepM M).1.L), .sl .none 1 (dT (sweepM M).1.roots), .lit (w64 (sweepM M).1.ver), .sl .none 2 (dC (sweepM M).1.tc)] := by rw [← hS6]; exact push_self _ _
   have ho10' : S6.objs (S.n + 3) = .cells 66 [.sl .full 0 [], .sl .full 0 [], .sl .full 0 [], .sl .full 0 [], .lit (.int .u64 0), .sl .full 0 []] := by rw [← hS6]; exact psh_old0 ho10 (by omega)
   have hk6 : Keep S S6 := by rw [← hS6]; exact hk4.push' _
   have hn6 : S6.n = S5.n + 1 := by rw [← hS6]; rfl
   have h6 : StOk S6 s I M := StG.keep h hk6
   clear hS6
   have hmu := hv.mu
   have hsl := sweep_l0 M
   simp -implicitDefEqProofs (disch := omega) only [seval, go_sem, e0, e3, e6, e7, e9, e10, e13, ho6', ho10']
   refine c_Sweep h6 hv.nd hv.rb hv.wf.rs (by omega) hv.rpb (by omega) (by omega) fun S7 I7 g7 t7 => ?_
   have ho6a := t7.fr.o S5.n (by omega) (hnS _ (by omega))
   have ho6b := ho6a.trans ho6'
   have ho10b := (t7.fr.o (S.n + 3) (by omega) (hnS _ (by omega))).trans ho10'
   simp -implicitDefEqProofs (disch := omega) only [seval, go_sem, e0, e3, e6, e7, e9, e10, e13, ho6', ho6b, ho10b]
   refine c_godownref01_Texts ?_ (by omega)
   rw [decide_eq_true rfl]
   simp -implicitDefEqProofs (disch := omega) only [seval, go_sem, e0, e3, e6, e7, e9, e10, e13, ho6', ho6b, ho10b]
   obtain ⟨a1, a2⟩ := act_fin (o := .cells 66 [.sl .none 1 (gD fW), .sl .none 1 (gD kW), .sl .none 4 (dR (sweepM M).1.L), .sl .none 1 (dT (sweepM M).1.roots), .lit (w64 (sweepM M).1.ver), .sl .none 2 (dC (sweepM M).1.tc)]) h hk6 (by omega) g7 t7
   have hiv := hv.sweep
   have htc := sweep_tc0 (M := M) h255
   refine ⟨_, resCell (id := S.n + 3) e10 ti66 (TS.set_same' _ _ _) rfl rfl, ?_⟩
   exact hK _ _ _ made gm a1 a2 hiv (by omega) hm (by omega)
end Go.Proofs.YtoldjfappfbfbaaGreatDoor
namespace Go.Proofs.YtoldjfappfbfbaaGreatDoor
open Go.RowKit TL
set_option maxRecDepth 8000 in
set_option maxHeartbeats 1000000 in
theorem c_DbPlays {x : PlanM} (hb : PlanB x) {S : TS} {K : TV -> TS -> Prop} (hK : K (.lit (.bool true)) S) : TCall env 11 [planV x] S K := by
 refine TCall.toPure (r := .lit (.bool true)) ?_ hK
 have hda := actL_len x.acts
 have hl' : x.acts.length <= 140737488355328 := hb.al
 rw [planV_mk]
 refine TCall.w 57 [.tmp 2] Tryz.func11 rfl rfl rfl rfl (by kernel_rfl) rfl ?_
 simp -implicitDefEqProofs (disch := omega) only [seval, go_sem]
 refine c_fresh10 ?_
 have ho : (S.push (.cells 90 [.sl .none 1 (treeL x.trees), .sl .none 4 (actL x.acts)])).objs S.n = .cells 90 [.sl .none 1 (treeL x.trees), .sl .none 4 (actL x.acts)] := push_self _ _
 have hk : Keep S (S.push (.cells 90 [.sl .none 1 (treeL x.trees), .sl .none 4 (actL x.acts)])) := Keep.push _ _
 have hn : S.n < (S.push (.cells 90 [.sl .none 1 (treeL x.trees), .sl .none 4 (actL x.acts)])).n := Nat.lt_succ_self _
 generalize S.push _ = S1 at *
 simp -implicitDefEqProofs (disch := omega) only [seval, go_sem, ho, hda]
 refine c_small10 hb ?_
 cases hs : smallB x with
 | false =>
  simp -implicitDefEqProofs (disch := omega) only [seval, go_sem, ho, hda]
  refine c_fresh10 ?_
  simp -implicitDefEqProofs (disch := omega) only [seval, go_sem]
  exact ⟨.lit _, hk⟩
 | true =>
  have hps := small_of hs
  have hal := hps.al
  simp -implicitDefEqProofs (disch := omega) only [seval, go_sem, ho, hda]
  refine c_Begin (Nat.le_trans hps.tl (by decide)) hps.ml hps.dl fun ars har => ?_
  rw [worldV_mk]
  simp -implicitDefEqProofs (disch := omega) only [seval, go_sem, ho, hda]
  have hoW : (S1.push (.cells 35 [.sl .none 1 (gD fW), .sl .none 1 (gD kW), .sl .none 1 (dBB ars), .sl .none 1 (dT names3), .sl .none 1 (dT [path0])])).objs S1.n = .cells 35 [.sl .none 1 (gD fW), .sl .none 1 (gD kW), .sl .none 1 (dBB ars), .sl .none 1 (dT names3), .sl .none 1 (dT [path0])] := push_self _ _
  have hoP : (S1.push (.cells 35 [.sl .none 1 (gD fW), .sl .none 1 (gD kW), .sl .none 1 (dBB ars), .sl .none 1 (dT names3), .sl .none 1 (dT [path0])])).objs S.n = .cells 90 [.sl .none 1 (treeL x.trees), .sl .none 4 (actL x.acts)] := psh_old0 ho hn
  have hkW : Keep S (S1.push (.cells 35 [.sl .none 1 (gD fW), .sl .none 1 (gD kW), .sl .none 1 (dBB ars), .sl .none 1 (dT names3), .sl .none 1 (dT [path0])])) := hk.push' _
  have hnW : S1.n < (S1.push (.cells 35 [.sl .none 1 (gD fW), .sl .none 1 (gD kW), .sl .none 1 (dBB ars), .sl .none 1 (dT names3), .sl .none 1 (dT [path0])])).n := Nat.lt_succ_self _
  generalize S1.push (.cells 35 [.sl .none 1 (gD fW), .sl .none 1 (gD kW), .sl .none 1 (dBB ars), .sl .none 1 (dT names3), .sl .none 1 (dT [path0])]) = S1b at *
  refine c_Store_new fun S2a s I h1a hf1a hk1a => ?_
  simp -implicitDefEqProofs (disch := omega) only [seval, go_sem, ho, hda]
  refine c_r10_New ?_
  rw [refV_mk]
  simp -implicitDefEqProofs (disch := omega) only [seval, go_sem, ho, hda]
  have hm7 : (S2a.push (.cells 66 [.sl .none 1 (gD fW), .sl .none 1 (gD kW), .sl .none 4 (dR StM.new.L), .sl .none 1 (dT StM.new.roots), .lit (w64 StM.new.ver), .sl .none 2 (dC StM.new.tc)])).objs S2a.n = .cells 66 [.sl .none 1 (gD fW), .sl .none 1 (gD kW), .sl .none 4 (dR StM.new.L), .sl .none 1 (dT StM.new.roots), .lit (w64 StM.new.ver), .sl .none 2 (dC StM.new.tc)] := push_self _ _
  have hk2b : Keep S2a (S2a.push (.cells 66 [.sl .none 1 (gD fW), .sl .none 1 (gD kW), .sl .none 4 (dR StM.new.L), .sl .none 1 (dT StM.new.roots), .lit (w64 StM.new.ver), .sl .none 2 (dC StM.new.tc)])) := Keep.push _ _
  have hn2b : S2a.n < (S2a.push (.cells 66 [.sl .none 1 (gD fW), .sl .none 1 (gD kW), .sl .none 4 (dR StM.new.L), .sl .none 1 (dT StM.new.roots), .lit (w64 StM.new.ver), .sl .none 2 (dC StM.new.tc)])).n := Nat.lt_succ_self _
  have h1 := StG.keep h1a hk2b
  generalize S2a.push (.cells 66 [.sl .none 1 (gD fW), .sl .none 1 (gD kW), .sl .none 4 (dR StM.new.L), .sl .none 1 (dT StM.new.roots), .lit (w64 StM.new.ver), .sl .none 2 (dC StM.new.tc)]) = S2 at *
  have hn1a := hk1a.1
  have hk2 : Keep S1b S2 := hk1a.trans hk2b
  have hnn := hk2b.1
  refine loW.asRow 6 4 rfl (.inl rfl) ?_
  refine loW_inv (fun n T S' => ∃ (i : Nat) (M : StM) (I' : StI) (made : List RowM) (g : Tag), n + i = x.acts.length /\ Inv M /\ M.tc.length <= 16640 * i /\ StOk S' s I' M /\ (∀ r ∈ made, RowB r) /\ made.length <= 60 /\ (∀ id, stF s I' id -> S1b.n <= id /\ id ≠ S2a.n) ∧
   S'.objs S2a.n = .cells 66 [.sl .none 1 (gD fW), .sl .none 1 (gD kW), .sl .none 4 (dR M.L), .sl .none 1 (dT M.roots), .lit (w64 M.ver), .sl .none 2 (dC M.tc)] /\ S2a.n < S'.n /\ T 1 = .ptr S.n 0 /\ T 3 = .ptr S1.n 0 /\ T 4 = .ptr s 0 /\ T 5 = .ptr S2a.n 0 /\ T 6 = .sl g 4 (dR made) /\ T 7 = .lit (.int .i64 (i : Int)) /\ Keep S1b S') x.acts.length ?_ ?_
  · refine ⟨0, .new, I, [], .own S2.n, rfl, Inv.new, Nat.le_refl _, StG.keep h1 (Keep.push _ _), (fun r h => by cases h), by simp, ?_, psh_old0 hm7 (by omega), by show S2a.n < S2.n + 1; omega, rfl, rfl, rfl, rfl, rfl, rfl, hk2.push' _⟩
    intro id hid
    have := hf1a id hid
    have := StG.flt h1a id hid
    exact ⟨by omega, by omega⟩
  rintro n T S4 ⟨i, M, I4, made, g, hi, hiv, htc, g4, hmb, hml, hsep, hm7', hlt7, e1, e3, e4, e5, e6, e7, hk4⟩
  have hn4 := hk4.1
  have hoW4 := (hk4.2 _ hnW).trans hoW
  have hoP4 := (hk4.2 _ (Nat.lt_trans hn hnW)).trans hoP
  have hkA : Keep S S4 := hkW.trans hk4
  by_cases hc : i < x.acts.length
  rotate_left
  · simp -implicitDefEqProofs (disch := omega) only [seval, go_sem, e1, e3, e4, e5, e6, e7, hoP4, hda]
    exact ⟨.lit _, hkA⟩
  have hb4 : RefB M := ⟨Nat.le_trans hiv.ll (by decide), Nat.le_trans hiv.rl (by decide), by omega⟩
  have hx := actL_get hc
  generalize x.acts.getD i default = y at *
  rw [actD_mk] at hx
  simp -implicitDefEqProofs (disch := omega) only [seval, go_sem, e1, e3, e4, e5, e6, e7, hoP4, hoW4, hm7', hda, hx]
  refine drW_dep [(0, 0), (1, 0), (2, 0), (3, 0), (4, 0), (5, 0), (6, 0), (7, 0), (8, 0)] [(10, 0), (11, 0), (12, 0), (13, 0), (14, 1), (15, 4), (16, 0), (17, 0)] [(9, 4), (10, 0), (11, 0), (12, 0), (13, 0), (15, 4), (16, 0), (17, 0)] 9 14 followsN (by kernel_rfl) (by kernel_rfl) (by kernel_rfl) ?_
  simp -implicitDefEqProofs (disch := omega) only [seval, go_sem, e1, e3, e4, e5, e6, e7, hoP4, hoW4, hm7', hda, hx]
  refine ⟨?_, ?_⟩
  · simp -implicitDefEqProofs (disch := omega) only [seval, go_sem, e1, e3, e4, e5, e6, e7, hoP4, hoW4, hm7', hda, hx]
    refine c_act (M := M) (x := y) g4 hiv hb4 har hmb hml fun S5 I5 M5 made5 g5 a1 a2 v5 tc5 mb5 ml5 => ?_
    have hn5 := a2.fr.n
    have hm75 : S5.objs S2a.n = .cells 66 [.sl .none 1 (gD fW), .sl .none 1 (gD kW), .sl .none 4 (dR M.L), .sl .none 1 (dT M.roots), .lit (w64 M.ver), .sl .none 2 (dC M.tc)] := (a2.fr.o _ hlt7 (fun hf => (hsep _ hf).2 rfl)).trans hm7'
    have hoP5 := (a2.fr.o S.n (by omega) (fun hf => by have := (hsep _ hf).1; omega)).trans hoP4
    have hold : ∀ id, id < S5.n -> id ≠ S2a.n -> ((S5.set S2a.n (.cells 66 [.sl .none 1 (gD fW), .sl .none 1 (gD kW), .sl .none 4 (dR M5.L), .sl .none 1 (dT M5.roots), .lit (w64 M5.ver), .sl .none 2 (dC M5.tc)])).push (.cells 66 [.sl .none 1 (gD fW), .sl .none 1 (gD kW), .sl .none 4 (dR M5.L), .sl .none 1 (dT M5.roots), .lit (w64 M5.ver), .sl .none 2 (dC M5.tc)])).objs id = S5.objs id := fun id h1 h2 => psh_old0 (st_old _ h2) h1
    have hm78 : ((S5.set S2a.n (.cells 66 [.sl .none 1 (gD fW), .sl .none 1 (gD kW), .sl .none 4 (dR M5.L), .sl .none 1 (dT M5.roots), .lit (w64 M5.ver), .sl .none 2 (dC M5.tc)])).push (.cells 66 [.sl .none 1 (gD fW), .sl .none 1 (gD kW), .sl .none 4 (dR M5.L), .sl .none 1 (dT M5.roots), .lit (w64 M5.ver), .sl .none 2 (dC M5.tc)])).objs S2a.n = .cells 66 [.sl .none 1 (gD fW), .sl .none 1 (gD kW), .sl .none 4 (dR M5.L), .sl .none 1 (dT M5.roots), .lit (w64 M5.ver), .sl .none 2 (dC M5.tc)] := psh_old0 (TS.set_same' _ _ _) (by show S2a.n < S5.n; omega)
    have hn8 : ((S5.set S2a.n (.cells 66 [.sl .none 1 (gD fW), .sl .none 1 (gD kW), .sl .none 4 (dR M5.L), .sl .none 1 (dT M5.roots), .lit (w64 M5.ver), .sl .none 2 (dC M5.tc)])).push (.cells 66 [.sl .none 1 (gD fW), .sl .none 1 (gD kW), .sl .none 4 (dR M5.L), .sl .none 1 (dT M5.roots), .lit (w64 M5.ver), .sl .none 2 (dC M5.tc)])).n = S5.n + 1 := rfl
    have hsep8 : ∀ id, stF s I5 id -> S1b.n <= id /\ id ≠ S2a.n := fun id hid => by
     rcases a2.sub id hid with hh | hh
     · exact hsep id hh
     · exact ⟨by omega, by omega⟩
    have h8 : StOk ((S5.set S2a.n (.cells 66 [.sl .none 1 (gD fW), .sl .none 1 (gD kW), .sl .none 4 (dR M5.L), .sl .none 1 (dT M5.roots), .lit (w64 M5.ver), .sl .none 2 (dC M5.tc)])).push (.cells 66 [.sl .none 1 (gD fW), .sl .none 1 (gD kW), .sl .none 4 (dR M5.L), .sl .none 1 (dT M5.roots), .lit (w64 M5.ver), .sl .none 2 (dC M5.tc)])) s I5 M5 := StG.fr a1 (by omega) fun id hid => hold id (StG.flt a1 id hid) (hsep8 id hid).2
    have hk8 : Keep S1b ((S5.set S2a.n (.cells 66 [.sl .none 1 (gD fW), .sl .none 1 (gD kW), .sl .none 4 (dR M5.L), .sl .none 1 (dT M5.roots), .lit (w64 M5.ver), .sl .none 2 (dC M5.tc)])).push (.cells 66 [.sl .none 1 (gD fW), .sl .none 1 (gD kW), .sl .none 4 (dR M5.L), .sl .none 1 (dT M5.roots), .lit (w64 M5.ver), .sl .none 2 (dC M5.tc)])) := ⟨by omega, fun id hid => by rw [hold id (by omega) (by omega), a2.fr.o id (by omega) (fun hf => by have := (hsep id hf).1; omega), hk4.2 id hid]⟩
    have hdr5 := dR_len made5
    have hb8 : RefB M5 := ⟨Nat.le_trans v5.ll (by decide), Nat.le_trans v5.rl (by decide), by omega⟩
    rw [refV_mk M5]
    by_cases h60 : 60 < made5.length
    · simp -implicitDefEqProofs (disch := omega) only [seval, go_sem, e1, e3, e4, e5, e6, e7, hm75, hoP5, hda, hx, hdr5]
      exact ⟨.lit _, hkW.trans hk8⟩
    simp -implicitDefEqProofs (disch := omega) only [seval, go_sem, e1, e3, e4, e5, e6, e7, hm75, hoP5, hda, hx, hdr5]
    generalize (S5.set S2a.n (.cells 66 [.sl .none 1 (gD fW), .sl .none 1 (gD kW), .sl .none 4 (dR M5.L), .sl .none 1 (dT M5.roots), .lit (w64 M5.ver), .sl .none 2 (dC M5.tc)])).push (.cells 66 [.sl .none 1 (gD fW), .sl .none 1 (gD kW), .sl .none 4 (dR M5.L), .sl .none 1 (dT M5.roots), .lit (w64 M5.ver), .sl .none 2 (dC M5.tc)]) = S8 at *
    refine c_like (M := M5) h8 v5 hb8 mb5 (by omega) ?_
    simp -implicitDefEqProofs (disch := omega) only [seval, go_sem, e1, e3, e4, e5, e6, e7, hm78, hda, hx, hdr5]
    exact ⟨n - 1, by omega, i + 1, M5, I5, made5, g5, by omega, v5, by omega, h8, mb5, by omega, hsep8, hm78, by omega, e1, e3, e4, e5, rfl, rfl, hk8⟩
  · simp -implicitDefEqProofs (disch := omega) only [seval, go_sem, e1, e3, e4, e5, e6, e7, hoP4, hoW4, hm7', hda, hx]
    have g4' : StOk (S4.push (.cells 66 [.sl .full 0 [], .sl .full 0 [], .sl .full 0 [], .sl .full 0 [], .lit (.int .u64 0), .sl .full 0 []])) s I4 M := StG.keep g4 (Keep.push _ _)
    refine c_act (M := M) (x := y) g4' hiv hb4 har hmb hml fun S5 I5 M5 made5 g5 a1 a2 v5 tc5 mb5 ml5 => ?_
    have hn5 : S4.n + 1 <= S5.n := a2.fr.n
    have hns : ¬ stF s I4 S4.n := fun hf => by have := StG.flt g4 _ hf; omega
    have ho8 : S5.objs S4.n = .cells 66 [.sl .full 0 [], .sl .full 0 [], .sl .full 0 [], .sl .full 0 [], .lit (.int .u64 0), .sl .full 0 []] := (a2.fr.o S4.n (Nat.lt_succ_self _) hns).trans (push_self _ _)
    have hm75 : S5.objs S2a.n = .cells 66 [.sl .none 1 (gD fW), .sl .none 1 (gD kW), .sl .none 4 (dR M.L), .sl .none 1 (dT M.roots), .lit (w64 M.ver), .sl .none 2 (dC M.tc)] := (a2.fr.o _ (by show S2a.n < S4.n + 1; omega) (fun hf => (hsep _ hf).2 rfl)).trans (psh_old0 hm7' hlt7)
    have hoP5 := (a2.fr.o S.n (by show S.n < S4.n + 1; omega) (fun hf => by have := (hsep _ hf).1; omega)).trans (psh_old0 hoP4 (by omega))
    have hold : ∀ id, id ≠ S4.n -> id ≠ S2a.n -> ((S5.set S4.n (.cells 66 [.sl .none 1 (gD fW), .sl .none 1 (gD kW), .sl .none 4 (dR M5.L), .sl .none 1 (dT M5.roots), .lit (w64 M5.ver), .sl .none 2 (dC M5.tc)])).set S2a.n (.cells 66 [.sl .none 1 (gD fW), .sl .none 1 (gD kW), .sl .none 4 (dR M5.L), .sl .none 1 (dT M5.roots), .lit (w64 M5.ver), .sl .none 2 (dC M5.tc)])).objs id = S5.objs id := fun id h1 h2 => (st_old _ h2).trans (st_old _ h1)
    have hm78 : ((S5.set S4.n (.cells 66 [.sl .none 1 (gD fW), .sl .none 1 (gD kW), .sl .none 4 (dR M5.L), .sl .none 1 (dT M5.roots), .lit (w64 M5.ver), .sl .none 2 (dC M5.tc)])).set S2a.n (.cells 66 [.sl .none 1 (gD fW), .sl .none 1 (gD kW), .sl .none 4 (dR M5.L), .sl .none 1 (dT M5.roots), .lit (w64 M5.ver), .sl .none 2 (dC M5.tc)])).objs S2a.n = .cells 66 [.sl .none 1 (gD fW), .sl .none 1 (gD kW), .sl .none 4 (dR M5.L), .sl .none 1 (dT M5.roots), .lit (w64 M5.ver), .sl .none 2 (dC M5.tc)] := TS.set_same' _ _ _
    have hn8 : ((S5.set S4.n (.cells 66 [.sl .none 1 (gD fW), .sl .none 1 (gD kW), .sl .none 4 (dR M5.L), .sl .none 1 (dT M5.roots), .lit (w64 M5.ver), .sl .none 2 (dC M5.tc)])).set S2a.n (.cells 66 [.sl .none 1 (gD fW), .sl .none 1 (gD kW), .sl .none 4 (dR M5.L), .sl .none 1 (dT M5.roots), .lit (w64 M5.ver), .sl .none 2 (dC M5.tc)])).n = S5.n := rfl
    have hsep8 : ∀ id, stF s I5 id -> S1b.n <= id /\ id ≠ S2a.n := fun id hid => by
     rcases a2.sub id hid with hh | hh
     · exact hsep id hh
     · have : S4.n + 1 <= id := hh
       exact ⟨by omega, by omega⟩
    have h8 : StOk ((S5.set S4.n (.cells 66 [.sl .none 1 (gD fW), .sl .none 1 (gD kW), .sl .none 4 (dR M5.L), .sl .none 1 (dT M5.roots), .lit (w64 M5.ver), .sl .none 2 (dC M5.tc)])).set S2a.n (.cells 66 [.sl .none 1 (gD fW), .sl .none 1 (gD kW), .sl .none 4 (dR M5.L), .sl .none 1 (dT M5.roots), .lit (w64 M5.ver), .sl .none 2 (dC M5.tc)])) s I5 M5 := StG.fr a1 (by omega) fun id hid => hold id (fun e => by
     rcases a2.sub id hid with hh | hh
     · exact hns (e ▸ hh)
     · have : S4.n + 1 <= id := hh
       omega) (hsep8 id hid).2
    have hk8 : Keep S1b ((S5.set S4.n (.cells 66 [.sl .none 1 (gD fW), .sl .none 1 (gD kW), .sl .none 4 (dR M5.L), .sl .none 1 (dT M5.roots), .lit (w64 M5.ver), .sl .none 2 (dC M5.tc)])).set S2a.n (.cells 66 [.sl .none 1 (gD fW), .sl .none 1 (gD kW), .sl .none 4 (dR M5.L), .sl .none 1 (dT M5.roots), .lit (w64 M5.ver), .sl .none 2 (dC M5.tc)])) := ⟨by omega, fun id hid => by rw [hold id (by omega) (by omega), a2.fr.o id (by show id < S4.n + 1; omega) (fun hf => by have := (hsep id hf).1; omega), psh_old0 rfl (by omega), hk4.2 id hid]⟩
    have hdr5 := dR_len made5
    have hb8 : RefB M5 := ⟨Nat.le_trans v5.ll (by decide), Nat.le_trans v5.rl (by decide), by omega⟩
    rw [refV_mk M5]
    by_cases h60 : 60 < made5.length
    · simp -implicitDefEqProofs (disch := omega) only [seval, go_sem, e1, e3, e4, e5, e6, e7, hm75, hoP5, hda, hx, hdr5, ho8]
      exact ⟨.lit _, hkW.trans hk8⟩
    simp -implicitDefEqProofs (disch := omega) only [seval, go_sem, e1, e3, e4, e5, e6, e7, hm75, hoP5, hda, hx, hdr5, ho8]
    generalize (S5.set S4.n (.cells 66 [.sl .none 1 (gD fW), .sl .none 1 (gD kW), .sl .none 4 (dR M5.L), .sl .none 1 (dT M5.roots), .lit (w64 M5.ver), .sl .none 2 (dC M5.tc)])).set S2a.n (.cells 66 [.sl .none 1 (gD fW), .sl .none 1 (gD kW), .sl .none 4 (dR M5.L), .sl .none 1 (dT M5.roots), .lit (w64 M5.ver), .sl .none 2 (dC M5.tc)]) = S8 at *
    refine c_like (M := M5) h8 v5 hb8 mb5 (by omega) ?_
    simp -implicitDefEqProofs (disch := omega) only [seval, go_sem, e1, e3, e4, e5, e6, e7, hm78, hda, hx, hdr5]
    exact ⟨n - 1, by omega, i + 1, M5, I5, made5, g5, by omega, v5, by omega, h8, mb5, by omega, hsep8, hm78, by omega, e1, e3, e4, e5, rfl, rfl, hk8⟩
end Go.Proofs.YtoldjfappfbfbaaGreatDoor
