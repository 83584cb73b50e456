/-
  Lemmas of the claim, part 5: Sa.
-/
import Derived.Test.YtoldjfappfbfbaaGreatDoorMbd
set_option linter.unusedVariables false
set_option linter.unusedSimpArgs false
namespace Go.Proofs.YtoldjfappfbfbaaGreatDoor
open Go.RowKit TL
def rowOne (ar : Bs) : RowM := ⟨mkP nN ar [], nN, ar, []⟩
theorem rowOne_fits (ar : Bs) : fitsR (rowOne ar) = true := by
  unfold fitsR rowOne
  rw [right_n, refs_nil]
  exact decide_eq_true rfl
theorem rowOne_B (ar : Bs) (h : ar.length ≤ 1000000) : RowB (rowOne ar) := ⟨by show (1:Nat) ≤ _; decide, h, by simp [rowOne], (fun s h => by cases h), by show (mkP nN ar []).length ≤ 100000; rw [mkP_len]; decide⟩
theorem put_one (ar : Bs) : putM .new [rowOne ar] = (touchM { StM.new with L := [rowOne ar], ver := 1#64 } [mkP nN ar []], 0) := by
  have h1 : putF [] [rowOne ar] [] = (0, [rowOne ar]) := by
    unfold putF
    rw [rowOne_fits, if_neg (by simp), if_neg (by simp [hasP, rowAt]), if_neg (by simp [rowOne]), if_neg (by simp)]
    rfl
  have h2 : putF StM.new.L [rowOne ar] [] = (0, [rowOne ar]) := h1
  unfold putM
  rw [h2]
  rfl
set_option maxRecDepth 8000 in
set_option maxHeartbeats 1000000 in
theorem c_touched {S : TS} {K : TV → TS → Prop} (hK : K (.lit (.bool true)) S) : TCall env 13 [] S K := by
  refine TCall.toPure (r := .lit (.bool true)) ?_ hK
  refine TCall.w 43 [.tmp 0] Tryz.func13 rfl rfl rfl rfl (by kernel_rfl) rfl ?_
  simp -implicitDefEqProofs (disch := omega) only [seval, go_sem]
  refine c_Store_new fun S1 s I h1 hf1 hk1 => ?_
  simp -implicitDefEqProofs (disch := omega) only [seval, go_sem]
  refine c_Book_new fun S2 b F h2 hF2 hk2 => ?_
  have g2 := StG.keep h1 hk2
  simp -implicitDefEqProofs (disch := omega) only [seval, go_sem]
  refine c_r10_New ?_
  simp -implicitDefEqProofs (disch := omega) only [seval, go_sem, refV_mk]
  refine .argL (.same (.same (.empty (.empty .nil)))) (c_ref07_Make0 (nm := nN) (ar := []) (ga := .full) ?_ right_n (by simp))
  simp -implicitDefEqProofs (disch := omega) only [seval, go_sem]
  refine c_StampG g2 ?_
  simp -implicitDefEqProofs (disch := omega) only [seval, go_sem]
  refine c_Note h2 (fun S3 F3 h3 f3 s3 => ?_) (by omega) (by simp)
  have g3 := g2.frm f3 (fun id hid hF => by have := hF2 id hF; have := h1.flt id hid; omega)
  simp -implicitDefEqProofs (disch := omega) only [seval, go_sem]
  refine c_FreshB h3 g3 ?_ (by simp)
  simp -implicitDefEqProofs (disch := omega) only [seval, go_sem]
  refine .conv (b := [.ptr s 0, .sl .none 4 (dR [rowOne []])]) (.cons (.refl _) (.cons (.sl _ (.cons (De.aggF (.cons (.refl _) (.cons (.refl _) (.cons (.sl0 _ _) (.cons (.sl0 _ _) .nil))))) .nil)) .nil)) ?_
  refine c_Put g3 .nil (fun r hr => by rw [List.mem_singleton] at hr; subst hr; exact rowOne_B [] (Nat.zero_le _)) (.inl rfl) (by simp) (fun S4 I4 g4 t4 => ?_)
  rw [put_one] at g4 ⊢
  simp -implicitDefEqProofs (disch := omega) only [seval, go_sem]
  have h4 := h3.frm t4.fr (fun id hid hF => by
    have h5 := h1.flt id hF
    have h6 := hk2.1
    rcases s3 id hid with h | h
    · have := hF2 id h; omega
    · omega)
  refine c_FreshB h4 g4 ?_ (by show (1:Nat) ≤ _; decide)
  rw [show ((if (1:Int) = 1 then [] ++ [(mkP nN [] [], stampT StM.new.tc (mkP nN [] []))] else []).all fun x => decide (stampT (touchM { StM.new with L := [rowOne []], ver := 1#64 } [mkP nN [] []]).tc x.1 = x.2)) = false from by simp [StM.new, touchM, stampT]]
  simp -implicitDefEqProofs (disch := omega) only [seval, go_sem]
  refine c_FreshB h4 g4 ?_ (by show (0:Nat) ≤ _; decide)
  rw [show ((if (2:Int) = 1 then [] ++ [(mkP nN [] [], stampT StM.new.tc (mkP nN [] []))] else []).all fun x => decide (stampT (touchM { StM.new with L := [rowOne []], ver := 1#64 } [mkP nN [] []]).tc x.1 = x.2)) = true from by simp]
  simp -implicitDefEqProofs (disch := omega) only [seval, go_sem]
  refine ⟨.lit _, ⟨?_, fun id hid => ?_⟩⟩
  · have := hk1.1; have := hk2.1; have := f3.n; have := t4.fr.n; omega
  · have := hk1.1; have := hk2.1; have := f3.n
    rw [t4.fr.o id (by omega) (fun h => by have := hf1 id h; omega), f3.o id (by omega) (fun h => by have := hF2 id h; omega), hk2.2 id (by omega), hk1.2 id hid]
theorem c_Note2 {S : TS} {b : Nat} {l : Int → List Cl} {F : Nat → Prop} {o : Int} {p : Bs} {s : BitVec 64} {K : TV → TS → Prop} (h : BkS S b l F)
    (hK : ∀ S' F' l', BkS S' b l' F' → l' o = l o ++ [(p, s)] → (∀ i, i ≠ o → l' i = l i) → Frm S S' F → (∀ id, F' id → F id ∨ S.n ≤ id) → K (.tup []) S')
    (ho : -9223372036854775808 ≤ o ∧ o ≤ 9223372036854775807) (hl : (l o).length ≤ 1000000 := by omega) : TCall env 20 [.ptr b 0, .lit (.int .i64 o), .lit (.string (st p)), .lit (w64 s)] S K :=
  c_Note h (fun S' F' h' f s => hK S' F' _ h' (if_pos rfl) (fun i hi => if_neg hi) f s) ho hl
theorem c_Drop2 {S : TS} {b : Nat} {l : Int → List Cl} {F : Nat → Prop} {o : Int} {K : TV → TS → Prop} (h : BkS S b l F)
    (hK : ∀ S' F' l', BkS S' b l' F' → l' o = [] → (∀ i, i ≠ o → l' i = l i) → Frm S S' F → (∀ id, F' id → F id) → K (.tup []) S') : TCall env 24 [.ptr b 0, .lit (.int .i64 o)] S K :=
  c_DropB h (fun S' F' h' f s => hK S' F' _ h' (if_pos rfl) (fun i hi => if_neg hi) f s)
set_option maxRecDepth 8000 in
set_option maxHeartbeats 1000000 in
theorem c_ClaimApart {S : TS} {a b : Int} {p : Bs} {m : BitVec 8} {K : TV → TS → Prop} (ha : -9223372036854775808 ≤ a ∧ a ≤ 9223372036854775807) (hb : -9223372036854775808 ≤ b ∧ b ≤ 9223372036854775807) (hK : K (.lit (.bool true)) S) :
    TCall env 4 [.lit (.int .i64 a), .lit (.int .i64 b), .lit (.string (st p)), .lit (w8 m)] S K := by
  refine TCall.toPure (r := .lit (.bool true)) ?_ hK
  have hm : m.toNat < 256 := m.isLt
  refine TCall.w 102 [.tmp 8] Tryz.func4 rfl rfl rfl rfl (by kernel_rfl) rfl ?_
  simp -implicitDefEqProofs (disch := omega) only [seval, go_sem]
  refine c_touched ?_
  have hdec : decide (a = b) = true ∨ decide (a = b) = false := by cases decide (a = b) <;> simp
  rcases hdec with hd | hd
  · simp -implicitDefEqProofs (disch := omega) only [seval, go_sem, hd]
    refine c_touched ?_
    simp -implicitDefEqProofs (disch := omega) only [seval, go_sem]
    exact ⟨.lit _, Keep.refl _⟩
  have hab : a ≠ b := of_decide_eq_false hd
  simp -implicitDefEqProofs (disch := omega) only [seval, go_sem, hd]
  refine cdK_d (fun hc => ?_) (fun hc => ?_)
  · simp -implicitDefEqProofs (disch := omega) only [seval, go_sem, hd]
    refine c_touched ?_
    simp -implicitDefEqProofs (disch := omega) only [seval, go_sem]
    exact ⟨.lit _, Keep.refl _⟩
  simp -implicitDefEqProofs (disch := omega) only [seval, go_sem, hd]
  refine c_Book_new fun S1 k F h1 hF1 hk1 => ?_
  simp -implicitDefEqProofs (disch := omega) only [seval, go_sem]
  refine loW_inv (fun n T S' => ∃ (i : Nat) (l : Int → List Cl) (F' : Nat → Prop), n + i = m.toNat % 10 ∧ (l a).length = i ∧ (∀ o, o ≠ a → l o = []) ∧ T 0 = .lit (.int .i64 a) ∧ T 1 = .lit (.int .i64 b) ∧ T 2 = .lit (.string (st p)) ∧ T 3 = .lit (w8 m) ∧ T 9 = .ptr k 0 ∧ T 10 = .lit (.int .i64 (i : Int)) ∧ BkS S' k l F' ∧ (∀ id, F' id → S.n ≤ id) ∧ Keep S S') (m.toNat % 10) ?_ ?_
  · exact ⟨0, _, F, rfl, rfl, fun _ _ => rfl, rfl, rfl, rfl, rfl, rfl, rfl, h1, hF1, hk1⟩
  rintro n T S2 ⟨i, l, F2, hi, hlen, hno, e0, e1, e2, e3, e9, e10, h2, hF2, hk2⟩
  simp -implicitDefEqProofs (disch := omega) only [seval, go_sem, e0, e1, e2, e3, e9, e10]
  have hmr : (m % 10#8).toNat = m.toNat % 10 := by rw [BitVec.toNat_umod]; rfl
  refine cdK_d (fun hc => ?_) (fun hc => ?_)
  · simp -implicitDefEqProofs (disch := omega) only [seval, go_sem, e0, e1, e2, e3, e9, e10]
    refine c_Note2 (s := BitVec.ofNat 64 i) h2 (fun S3 F3 l3 h3 y3 n3 f3 s3 => ?_) ha
    simp -implicitDefEqProofs (disch := omega) only [seval, go_sem, e0, e1, e2, e3, e9, e10]
    refine ⟨n - 1, by omega, i + 1, l3, F3, by omega, by rw [y3]; simp [hlen], fun o ho => (n3 o ho).trans (hno o ho), e0, e1, e2, e3, e9, rfl, h3, fun id h => ?_, Nat.le_trans hk2.1 f3.n, fun id hid => ?_⟩
    · rcases s3 id h with h | h
      · exact hF2 id h
      · have := hk2.1; omega
    · have := hk2.1
      rw [f3.o id (by omega) (fun h => by have := hF2 id h; omega), hk2.2 id hid]
  have hi' : i = m.toNat % 10 := by omega
  simp -implicitDefEqProofs (disch := omega) only [seval, go_sem, e0, e1, e2, e3, e9, e10]
  refine c_Note2 (s := 5#64) h2 (fun S3 F3 l3 h3 y3 n3 f3 s3 => ?_) hb (by rw [hno b (Ne.symm hab)]; exact Nat.zero_le _)
  rw [hno b (Ne.symm hab), List.nil_append] at y3
  have y3l : (l3 b).length = 1 := by rw [y3]; rfl
  have y3a : (l3 a).length ≤ 10 := by rw [n3 a hab]; omega
  simp -implicitDefEqProofs (disch := omega) only [seval, go_sem, e0, e1, e2, e3, e9, e10]
  refine c_OfV h3 ?_
  rw [y3l, y3, show cellsD (dC [(p, 5#64)]) = [.lit (.string (st p)), .lit (.int .u64 5)] from rfl]
  simp -implicitDefEqProofs (disch := omega) only [seval, go_sem, e0, e1, e2, e3, e9, e10]
  have h4 := (h3.push (.cells 57 [.lit (.string (st p)), .lit (.int .u64 9)]))
  generalize hS4 : S3.push (.cells 57 [.lit (.string (st p)), .lit (.int .u64 9)]) = S4 at h4 ⊢
  have hk4 : Keep S3 S4 := by rw [← hS4]; exact Keep.push _ _
  have hdc : dC [(p, 5#64)] = [.agg [.lit (.string (st p)), .lit (.int .u64 5)]] := rfl
  refine c_OfB h4 ?_
  rw [y3, hdc]
  simp -implicitDefEqProofs (disch := omega) only [seval, go_sem, e0, e1, e2, e3, e9, e10]
  refine c_OfB h4 ?_
  rw [y3, hdc]
  simp -implicitDefEqProofs (disch := omega) only [seval, go_sem, e0, e1, e2, e3, e9, e10]
  refine c_Drop2 h4 (fun S5 F5 l5 h5 y5 n5 f5 s5 => ?_)
  have y5b : l5 b = [(p, 5#64)] := (n5 b (Ne.symm hab)).trans y3
  simp -implicitDefEqProofs (disch := omega) only [seval, go_sem, e0, e1, e2, e3, e9, e10]
  refine c_OfB h5 ?_ (by rw [y5]; exact Nat.zero_le _)
  rw [y5, show dC [] = [] from rfl]
  simp -implicitDefEqProofs (disch := omega) only [seval, go_sem, e0, e1, e2, e3, e9, e10]
  refine c_OfB h5 ?_ (by rw [y5b]; show (1:Nat) ≤ _; decide)
  rw [y5b, hdc]
  simp -implicitDefEqProofs (disch := omega) only [seval, go_sem, e0, e1, e2, e3, e9, e10]
  have hos : ∀ o, o ∈ [b] ↔ l5 o ≠ [] := fun o => by
    rw [List.mem_singleton]
    refine ⟨fun h => by rw [h, y5b]; simp, fun h => ?_⟩
    by_cases e1 : o = a
    · rw [e1] at h; exact absurd y5 h
    · by_cases e2 : o = b
      · exact e2
      · rw [n5 o e1, n3 o e2] at h; exact absurd (hno o e1) h
  have hob : ∀ o ∈ [b], -9223372036854775808 ≤ o ∧ o ≤ 9223372036854775807 := fun o h => by rw [List.mem_singleton] at h; rw [h]; exact hb
  refine c_OwnersB h5 (List.pairwise_singleton _ _) hos hob (by show (1:Nat) ≤ _; decide) ?_
  rw [show dI [b] = [.lit (.int .i64 b)] from rfl]
  simp -implicitDefEqProofs (disch := omega) only [seval, go_sem, e0, e1, e2, e3, e9, e10]
  refine c_OwnersB h5 (List.pairwise_singleton _ _) hos hob (by show (1:Nat) ≤ _; decide) ?_
  rw [show dI [b] = [.lit (.int .i64 b)] from rfl]
  simp -implicitDefEqProofs (disch := omega) only [seval, go_sem, e0, e1, e2, e3, e9, e10]
  refine ⟨.lit _, ⟨?_, fun id hid => ?_⟩⟩
  · have := hk2.1; have := f3.n; have := hk4.1; have := f5.n; omega
  · have h1 := hk2.1; have h2 := f3.n; have h3 := hk4.1
    have hn2 : ¬ F2 id := fun h => by have := hF2 id h; omega
    rw [f5.o id (by omega) (fun h => (s3 id h).elim hn2 (fun h => by omega)), hk4.2 id (by omega), f3.o id (by omega) hn2, hk2.2 id hid]
end Go.Proofs.YtoldjfappfbfbaaGreatDoor
