/-
  The row and the card of DbFull: whatever the input, the function answers true, and its arguments read as before (no condition).
-/
import Derived.Test.YtlljknmojafkoaaGreatDoorMle
import Derived.Test.YtlljknmojafkoaaGreatDoorTie
import Derived.Test.YtlljknmojafkoaaGreatDoorCards
import Derived.Lay
set_option linter.unusedVariables false
set_option linter.unusedSimpArgs false
namespace Go.Proofs.YtlljknmojafkoaaGreatDoor
open Go.RowKit TL Go.ChangeShapes Go.WideShapes Go.ChangeAt
theorem own : ownKnob Tryz.prog.godebug = none := by kernel_rfl
theorem gFirst : Tryz.prog.globalNamed "godown/hash.first" = some 0 := by kernel_rfl
theorem gKeys : Tryz.prog.globalNamed "godown/hash.keys" = some 2 := by kernel_rfl
theorem tFirst : (Tryz.prog.globals[0]?).map (·.type) = some 221 := by kernel_rfl
theorem tKeys : (Tryz.prog.globals[2]?).map (·.type) = some 248 := by kernel_rfl
def laidL : List (String × DataW Unit) := [("godown/hash.first", Rows.laid_godown_hash_first), ("godown/hash.keys", Rows.laid_godown_hash_keys), ("unicode/utf8.acceptRanges", Rows.laid_unicode_utf8_acceptRanges), ("unicode/utf8.first", Rows.laid_unicode_utf8_first)]
theorem door_met (os : Os) (args : Array Value) : laidMetH Tryz.prog laidL ((World.laidAll Tryz.prog os laidL).forCall (fun _ _ => 0) ⟨#[], args, []⟩).memory := by
  rw [MakeChecks.laidMetH_plain _ _ _ (by kernel_rfl)]
  exact laidMet_laidAll _ (by kernel_rfl) (by kernel_rfl)
theorem datF : (Rows.laid_godown_hash_first : DataW Unit) = .agg ((firsts.map Int.ofNat).map fun z => .lit (.int .u32 z)) := rfl
theorem datK : (Rows.laid_godown_hash_keys : DataW Unit) = .agg ((keys.map Int.ofNat).map fun z => .lit (.int .u32 z)) := rfl
theorem gdF : ((firsts.map Int.ofNat).map fun z => D.lit (.int .u32 z)) = gD fW := by kernel_rfl
theorem gdK : ((keys.map Int.ofNat).map fun z => D.lit (.int .u32 z)) = gD kW := by kernel_rfl
theorem glob_of {W : World} (h : laidMetH Tryz.prog laidL W) : ∀ g, RdT (cx0 W) W (env.G g) (.pointer (some ⟨g, 0, none⟩)) := by
  rw [MakeChecks.laidMetH_plain _ _ _ (by kernel_rfl)] at h
  obtain ⟨ps, ⟨g0, t0, cs0, f0, p0, q0, hg0, ht0, hv0, hd0, ⟨g1, t1, cs1, f1, p1, q1, hg1, ht1, hv1, hd1, _, _⟩, _⟩, _, _⟩ := h
  obtain rfl := Option.some.inj (gFirst.symm.trans hg0)
  obtain rfl := Option.some.inj (gKeys.symm.trans hg1)
  obtain rfl := Option.some.inj (tFirst.symm.trans ht0)
  obtain rfl := Option.some.inj (tKeys.symm.trans ht1)
  rw [datF] at hd0
  rw [datK] at hd1
  intro g
  by_cases h0 : g = 0
  · subst h0
    have := laid_ints Tryz.underlying221 Tryz.underlying158 (by kernel_rfl) gFirst hv0 hd0
    rw [gdF] at this
    exact this
  by_cases h1 : g = 2
  · subst h1
    have := laid_ints Tryz.underlying248 Tryz.underlying158 (by kernel_rfl) gKeys hv1 hd1
    rw [gdK] at this
    exact this
  · have hu : env.G g = .unk := by
      show glob g = .unk
      unfold glob
      split
      · exact absurd rfl h0
      · exact absurd rfl h1
      · rfl
    rw [hu]
    exact .unk _
end Go.Proofs.YtlljknmojafkoaaGreatDoor
namespace Go.Proofs.YtlljknmojafkoaaGreatDoor
open Go.RowKit TL Go.ChangeShapes Go.WideShapes Go.ChangeAt
open Go.ChangeMaps (open_string shut_string)
set_option maxRecDepth 100000 in
theorem dbFull_lifted (os : Os) (started : os.Started) (H : Type) (enc : TypeId × Value → H) :
    ReturnsInHanded {} Tryz.checked os 3 .any (fun w args => (Rows.dbFullSpec.pre enc Tryz.prog Tryz.f3 [] false w args ∧ laidMetH Tryz.prog laidL w) ∧ sizedMet enc Tryz.prog Tryz.f3 (OpenSpec.ofChange Rows.dbFullSpec) false w args)
      (Rows.dbFullSpec.post enc Tryz.prog Tryz.f3 false true false false) := by
  refine returnsInHanded_of_change_and (C := Tryz.checked) (X := fun w _ => laidMetH Tryz.prog laidL w) (fun _ _ _ hh h => h.of_heap hh) own started (by kernel_rfl) Tryz.func3
    (ChangeSpec.witness_shaped (enc := enc) (C := Tryz.checked) (os := os) (X := fun w _ => laidMetH Tryz.prog laidL w) false (World.laidAll Tryz.prog os laidL) #[.int .u8 0] 8 rfl (World.shaped_of_ZipB (by kernel_rfl) (by kernel_rfl)) (by kernel_rfl) (by kernel_rfl) (by kernel_rfl) (door_met os _)) ?_
  intro W base args ds gs before hval0 hW _ hsz0 hL _
  have hsz : (DataW.weightsEach Tryz.prog (Tryz.f3.params.toList ++ Rows.dbFullSpec.plain.varTypes Tryz.prog) (ds ++ gs)).all (· ≤ reachBytes) = true := hsz0
  have hval : ∀ (j : Nat) t v, Tryz.f3.params[j]? = some t → args[j]? = some v → Value.okWide Tryz.prog W .any base t v := hval0
  have hW' := hW
  obtain ⟨p, q, hA0, hV, rfl, hfz, hnd⟩ := hW
  have hA : DataW.TrodAll enc Tryz.prog W 0 (fun _ => true) true Tryz.f3.params.toList args.toList ds p := hA0
  rw [Tryz.params3] at hA hval hsz
  obtain ⟨v0, vs0, d0, ds0, p0, q0, hargs, rfl, rfl, h0, r0⟩ := trodAll_cons hA
  obtain ⟨rfl, rfl, rfl⟩ := trodAll_nil r0
  obtain rfl : args = #[v0] := by cases args; simp_all
  obtain ⟨rfl, rfl⟩ := trodVars_none hV
  obtain ⟨a0, rfl, rfl, rfl, w0⟩ := open_int Tryz.underlying5 (hval 0 5 v0 rfl rfl) h0
  clear hA0 hval0 hsz0
  refine (((c_DbFull (n := BitVec.ofInt 8 a0) (S := S0) (K := fun r _ => r = .lit (.bool true)) rfl) W (cx0 W) W _ ⟨rel0 W, glob_of hL⟩ (RdCells.cons (rd_int (wf_u8 w0)) RdCells.nil)).calls (ent_of Tryz.func3 rfl rfl)).mono fun e W' ⟨u, he, t, c', S', hk, hm, hr, hR⟩ => ?_
  subst hR
  have hu := hr.lit_inv
  subst hu
  subst he
  have bel := hk.rel.below
  exact ⟨_, rfl, _, _, _, [], _, [], hW', trodAll_mk1 (shut_bool Tryz.underlying4 _), (trodAll_cons_mk (shut_int Tryz.underlying5 w0) trodAll_mk0), rfl, bel.frame _, fun h => by cases h⟩
theorem dbFull_holds : Rows.DbFullSaid :=
  OpenClaim.holds_of_wide 3 Tryz.f3 rfl rfl rfl rfl rfl rfl rfl ⟨rfl, rfl, rfl, rfl, rfl⟩ rfl rfl rfl rfl rfl (by kernel_rfl) Tryz.func3 (by kernel_rfl)
    (of_decide_eq_true (by kernel_rfl)) (by unfold Func.isWrapper; first | (rw [if_pos (by decide +kernel)]; kernel_rfl) | (rw [if_neg (by decide +kernel)]; exact ⟨rfl, rfl⟩))
    (fun os started H enc _ => dbFull_lifted os started H enc)
theorem dbFull_card : Rows.DbFullCardSaid :=
  Claim7.holds_tied_plain_at .later [] [.data, .data, .data, .pinned] true (true, "626d04c810d7d306ad8b245eb4a5f5d73b5a7465854a620956ed2ab1944e5701") true
    dbFull_holds (fun _ h => by cases h) (by kernel_rfl) (fun _ h => by cases h) dbFull_row_tie rfl ⟨rfl, rfl⟩ (by kernel_rfl) rfl
    (fun f fn hf hfn => by
      obtain rfl : f = 3 := Option.some.inj ((show Tryz.prog.funcNamed "godown/godownlaw10.DbFull" = some 3 by kernel_rfl).symm.trans hf) |>.symm
      obtain rfl : fn = Tryz.f3 := (Option.some.inj (Tryz.func3.symm.trans hfn)).symm
      exact ⟨by kernel_rfl, fun j t ht => by
        rw [Tryz.params3] at ht
        have hm : t ∈ [5] := by simpa using Array.mem_of_getElem? ht
        have hall : ([5].all fun u => !Tryz.prog.wantsStandIn u) = true := by kernel_rfl
        exact (show Tryz.prog.wantsStandIn t = false by simpa using List.all_eq_true.1 hall t hm)⟩)
    (by kernel_rfl)
end Go.Proofs.YtlljknmojafkoaaGreatDoor
