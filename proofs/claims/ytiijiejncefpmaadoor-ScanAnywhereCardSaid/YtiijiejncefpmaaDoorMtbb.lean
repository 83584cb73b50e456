/-
  The row and the card of ScanAnywhere: whatever the input, the function answers true, and its arguments read as before (no condition).
-/
import Derived.Test.YtiijiejncefpmaaDoorMte
import Derived.Test.YtiijiejncefpmaaDoorTie
import Derived.Test.YtiijiejncefpmaaDoorCards
import Derived.Lay
set_option linter.unusedVariables false
set_option linter.unusedSimpArgs false
namespace Go.Proofs.YtiijiejncefpmaaDoor
open Go.RowKit TL

theorem spotL_nil1 {p : Bs} {m : Nat} {s : Bs} : spotL p m s = [] ↔ spotN p m s = [] := by rw [spotL, List.map_eq_nil_iff]
theorem right_x : rightS [UInt8.toBitVec 120] = true := by decide +kernel
theorem split_x {s : Bs} (h32 : s.length = 32) (hok : okB s = true) : splitS (s ++ [UInt8.toBitVec 45, UInt8.toBitVec 120]) = some (s, [UInt8.toBitVec 120]) := by
  have := split_app s [UInt8.toBitVec 120] h32
  rw [if_pos ⟨right_x, hok⟩] at this
  exact this
theorem spots_x (p : Bs) {s : Bs} (h32 : s.length = 32) (hok : okB s = true) : spots p (s ++ [UInt8.toBitVec 45, UInt8.toBitVec 120]) = spotL p (p.length - 31) s := by
  rw [spots, if_pos (by rw [isP, split_x h32 hok]; rfl), splitA_of (split_x h32 hok)]
theorem rise_two (x : Bs) : riseL [x, x] = [x] :=
  ris_ext (riseL_ris _) (List.pairwise_singleton _ _) fun y => by rw [riseL_mem]; simp
theorem any_succ {N : List Nat} {i : Nat} (h : i < N.length) (k : Nat) : (N.take (i + 1)).any (· == k) = ((N.take i).any (· == k) || N.getD i 0 == k) := by
  rw [take_succ_D N 0 h, List.any_append]; simp
set_option maxRecDepth 8000 in
set_option maxHeartbeats 1000000 in
theorem c_ScanAnywhere (S : TS) (g1 g2 : Tag) (a b : Bs) (n : BitVec 8) : TCall env 7 [.sl g1 1 (dB a), .sl g2 1 (dB b), .lit (w8 n)] S fun r S' => r = .lit (.bool true) := by
  refine TCall.w 87 [.tmp 6] Tryd.func7 rfl rfl rfl rfl (by kernel_rfl) rfl ?_
  simp -implicitDefEqProofs (disch := omega) only [seval, go_sem]
  refine c_godownlaw08_found ?_
  by_cases h1 : a.length ≤ 100
  rotate_left
  · simp -implicitDefEqProofs (disch := omega) only [seval, go_sem]
    refine c_godownlaw08_found ?_
    simp -implicitDefEqProofs (disch := omega) only [seval, go_sem]
    exact rfl
  by_cases h2 : b.length ≤ 100
  rotate_left
  · simp -implicitDefEqProofs (disch := omega) only [seval, go_sem]
    refine c_godownlaw08_found ?_
    simp -implicitDefEqProofs (disch := omega) only [seval, go_sem]
    exact rfl
  have h34 : (pth6 n).length = 34 := pthN_len _
  have htk := pth6_take n
  simp -implicitDefEqProofs (disch := omega) only [seval, go_sem]
  refine c_godownlaw08_path ?_
  have h32 := ltrN_len (n % 6#8)
  have hok := ltrN_ok (n % 6#8)
  generalize pth6 n = x at *
  generalize ltrN (n % 6#8) = s at *
  simp -implicitDefEqProofs (disch := omega) only [seval, go_sem, h34, htk]
  refine c_godownref01_Join ?_
  have l1 : (a ++ s).length = a.length + 32 := by rw [List.length_append, h32]
  simp -implicitDefEqProofs (disch := omega) only [seval, go_sem]
  refine c_godownref01_Join ?_
  have l2 : (a ++ s ++ b).length = a.length + 32 + b.length := by rw [List.length_append, l1]
  have m1 : win (a ++ s ++ b) a.length = s := win_mid _ _ _ h32
  generalize a ++ s ++ b = p at *
  have hx2 : ([UInt8.toBitVec 45, UInt8.toBitVec 120] : Bs).length = 2 := rfl
  have hxl : (s ++ [UInt8.toBitVec 45, UInt8.toBitVec 120]).length = 34 := by rw [List.length_append, h32]; rfl
  have hsp := fun p => spots_x p h32 hok
  simp -implicitDefEqProofs (disch := omega) only [seval, go_sem]
  refine c_scan_Spots ?_
  rw [hsp]
  have hat := fun j h => spotN_at (p := p) (m := p.length - 31) (s := s) (j := j) h
  have hdt := fun j h => spotD (p := p) (m := p.length - 31) (s := s) (j := j) h
  have hin : a.length ∈ spotN p (p.length - 31) s := spotN_mem.2 ⟨by omega, m1, hok⟩
  have hsl : (spotL p (p.length - 31) s).length = (spotN p (p.length - 31) s).length := List.length_map _
  have hle := spotL_len p (p.length - 31) s
  have hfi : riseL (finds p [s ++ [UInt8.toBitVec 45, UInt8.toBitVec 120], s ++ [UInt8.toBitVec 45, UInt8.toBitVec 120]]) = [s ++ [UInt8.toBitVec 45, UInt8.toBitVec 120]] := by
    have hne : (spots p (s ++ [UInt8.toBitVec 45, UInt8.toBitVec 120])).isEmpty = false := by
      rw [hsp]
      cases h : spotL p (p.length - 31) s
      · rw [spotL_nil1] at h; rw [h] at hin; cases hin
      · rfl
    rw [show finds p [s ++ [UInt8.toBitVec 45, UInt8.toBitVec 120], s ++ [UInt8.toBitVec 45, UInt8.toBitVec 120]] = [s ++ [UInt8.toBitVec 45, UInt8.toBitVec 120], s ++ [UInt8.toBitVec 45, UInt8.toBitVec 120]] by simp only [finds, List.filter_cons, hne, Bool.not_false, if_true, List.filter_nil], rise_two]
  generalize spotL p (p.length - 31) s = L at *
  generalize spotN p (p.length - 31) s = N at *
  simp -implicitDefEqProofs (disch := omega) only [seval, go_sem, hsl]
  refine loW_inv (fun n T S' => ∃ (i : Nat) (g8 g10 : Tag), n + i = N.length ∧ T 0 = .sl g1 1 (dB a) ∧ T 7 = .lit (.string (st s)) ∧ T 8 = .sl g8 1 (dB p) ∧ T 9 = .lit (.bool ((N.take i).any (· == a.length))) ∧ T 10 = .sl g10 1 (dI L) ∧ T 11 = .lit (.int .i64 (i : Int))) N.length ?_ ?_
  · exact ⟨0, _, _, rfl, rfl, rfl, rfl, rfl, rfl, rfl⟩
  rintro n T S1 ⟨i, g8, g10, hi, h0, h7, h8, h9, h10, h11⟩
  simp -implicitDefEqProofs (disch := omega) only [seval, go_sem, h0, h7, h8, h9, h10, h11, hsl]
  refine cdK_d (fun hb => ?_) (fun hb => ?_)
  · have hlt : i < N.length := by omega
    have hd := hdt i hlt
    have hs := any_succ hlt a.length
    generalize N.getD i 0 = q at *
    cases hq : (N.take i).any (· == a.length)
    · rw [hq] at h9 hs
      simp -implicitDefEqProofs (disch := omega) only [seval, go_sem, h0, h7, h8, h9, h10, h11, hsl, hd]
      refine ⟨n - 1, by omega, i + 1, g8, g10, by omega, h0, h7, h8, ?_, h10, rfl⟩
      rw [hs]
      show TV.lit (.bool (decide ((q : Int) = (a.length : Int)))) = _
      rw [Bool.false_or]
      congr 2
      by_cases hqa : q = a.length
      · rw [hqa]; simp
      · rw [decide_eq_false (by omega)]; symm; simpa using hqa
    · rw [hq] at h9 hs
      simp -implicitDefEqProofs (disch := omega) only [seval, go_sem, h0, h7, h8, h9, h10, h11, hsl, hd]
      refine ⟨n - 1, by omega, i + 1, g8, g10, by omega, h0, h7, h8, ?_, h10, rfl⟩
      rw [hs]; rfl
  have e : i = N.length := by omega
  subst e
  have hany : (N.take N.length).any (· == a.length) = true := by
    rw [List.take_length, List.any_eq_true]; exact ⟨_, hin, by simp⟩
  rw [hany] at h9
  simp -implicitDefEqProofs (disch := omega) only [seval, go_sem, h0, h7, h8, h9, h10, h11, hsl]
  refine drW_at [(0,0),(1,0),(2,0),(3,0),(4,0),(5,0),(6,0),(9,0),(10,0),(7,3),(11,3),(8,1),(12,3),(13,0),(14,0),(15,0),(16,0),(17,0),(20,0),(21,0),(23,0),(24,0),(25,0),(28,0),(29,0),(18,3),(26,3),(19,1),(22,1),(27,1),(30,1),(31,3),(32,0),(33,0)] followsN (by kernel_rfl) ?_
  simp -implicitDefEqProofs (disch := omega) only [seval, go_sem, h0, h7, h8, h9, h10, h11, hsl]
  refine c_scan_Find (l := [s ++ [UInt8.toBitVec 45, UInt8.toBitVec 120], s ++ [UInt8.toBitVec 45, UInt8.toBitVec 120]]) ?_ (fun y hy => by
    have hy' : y = s ++ [UInt8.toBitVec 45, UInt8.toBitVec 120] := by
      rcases List.mem_cons.1 hy with h | h
      · exact h
      · exact List.mem_singleton.1 h
    rw [hy', hxl]; omega) (by simp)
  rw [hfi]
  simp -implicitDefEqProofs (disch := omega) only [seval, go_sem, h0, h7, h8, h9, h10, h11, hsl]
  refine ⟨_, fun S' _ => c_godownref01_Texts (a := [s ++ [UInt8.toBitVec 45, UInt8.toBitVec 120]]) (b := [s ++ [UInt8.toBitVec 45, UInt8.toBitVec 120]]) ⟨rfl, rfl⟩ (by simp), ?_⟩
  rw [decide_eq_true rfl]
  have hsd : (s.take 31).length = 31 := by rw [List.length_take]; omega
  simp -implicitDefEqProofs (disch := omega) only [seval, go_sem, h0, h7, h8, h9, h10, h11, hsl]
  refine c_godownref01_Join ?_
  have hjl : (a ++ s.take 31).length = a.length + 31 := by rw [List.length_append, hsd]
  generalize hq : a ++ s.take 31 = q at *
  simp -implicitDefEqProofs (disch := omega) only [seval, go_sem, h0, h7, h8, h9, h10, h11, hsl]
  refine c_scan_Spots ?_
  simp -implicitDefEqProofs (disch := omega) only [seval, go_sem, h0, h7, h8, h9, h10, h11, hsl]
  have hql : (spotL q (q.length - 31) s).length ≤ q.length := by have := spotL_len q (q.length - 31) s; omega
  rw [hsp]
  refine c_godownref01_Join ?_
  rw [hq]
  simp -implicitDefEqProofs (disch := omega) only [seval, go_sem, h0, h7, h8, h9, h10, h11, hsl]
  refine c_godownref08_Spots ?_
  rw [hsp]
  simp -implicitDefEqProofs (disch := omega) only [seval, go_sem, h0, h7, h8, h9, h10, h11, hsl]
  refine ⟨_, fun S' _ => c_godownref01_Ints ⟨rfl, rfl⟩ (by omega), ?_⟩
  rw [decide_eq_true rfl]
end Go.Proofs.YtiijiejncefpmaaDoor
namespace Go.Proofs.YtiijiejncefpmaaDoor
open Go.RowKit TL Go.ChangeShapes Go.WideShapes Go.ChangeAt
theorem rd_str {c : Cx} {w : World} (b : ByteArray) : RdT c w (.lit (.string (st (ofBA b)))) (.string b) := by rw [st_ofBA]; exact .lit _
theorem own : ownKnob Tryd.prog.godebug = none := by kernel_rfl
theorem laidOut : laidOutB Tryd.prog = true := by kernel_rfl
def laidL : List (String × DataW Unit) := [("unicode/utf8.acceptRanges", Rows.laid_unicode_utf8_acceptRanges), ("unicode/utf8.first", Rows.laid_unicode_utf8_first)]
theorem door_met (os : Os) (args : Array Value) : laidMetH Tryd.prog laidL ((World.laidAll Tryd.prog os laidL).forCall (fun _ _ => 0) ⟨#[], args, []⟩).memory := by
  rw [MakeChecks.laidMetH_plain _ _ _ (by kernel_rfl)]
  exact laidMet_laidAll _ (by kernel_rfl) (by kernel_rfl)
theorem glob_of {W : World} (h : laidMetH Tryd.prog laidL W) : ∀ g, RdT (cx0 W) W (env.G g) (.pointer (some ⟨g, 0, none⟩)) := fun g => .unk _
end Go.Proofs.YtiijiejncefpmaaDoor
namespace Go.Proofs.YtiijiejncefpmaaDoor
open Go.RowKit TL Go.ChangeShapes Go.WideShapes Go.ChangeAt
open Go.ChangeMaps (open_string shut_string)

set_option maxRecDepth 100000 in
theorem scanAnywhere_lifted (os : Os) (started : os.Started) (H : Type) (enc : TypeId × Value → H) :
    ReturnsInHanded {} Tryd.checked os 7 .any (fun w args => (Rows.scanAnywhereSpec.pre enc Tryd.prog Tryd.f7 [] false w args ∧ laidMetH Tryd.prog laidL w) ∧ sizedMet enc Tryd.prog Tryd.f7 (OpenSpec.ofChange Rows.scanAnywhereSpec) false w args)
      (Rows.scanAnywhereSpec.post enc Tryd.prog Tryd.f7 false true false false) := by
  refine returnsInHanded_of_change_and (C := Tryd.checked) (X := fun w _ => laidMetH Tryd.prog laidL w) (fun _ _ _ hh h => h.of_heap hh) own started (by kernel_rfl) Tryd.func7
    (ChangeSpec.witness_shaped (enc := enc) (C := Tryd.checked) (os := os) (X := fun w _ => laidMetH Tryd.prog laidL w) false (World.laidAll Tryd.prog os laidL) #[.slice none 0 0, .slice none 0 0, .int .u8 0] 8 rfl (World.shaped_of_ZipB (by kernel_rfl) (by kernel_rfl)) (by kernel_rfl) (by kernel_rfl) (by kernel_rfl) (door_met os _)) ?_
  intro W base args ds gs before hval0 hW _ hsz0 hL _
  have hsz : (DataW.weightsEach Tryd.prog (Tryd.f7.params.toList ++ Rows.scanAnywhereSpec.plain.varTypes Tryd.prog) (ds ++ gs)).all (· ≤ reachBytes) = true := hsz0
  have hval : ∀ (j : Nat) t v, Tryd.f7.params[j]? = some t → args[j]? = some v → Value.okWide Tryd.prog W .any base t v := hval0
  have hW' := hW
  obtain ⟨p, q, hA0, hV, rfl, hfz, hnd⟩ := hW
  have hA : DataW.TrodAll enc Tryd.prog W 0 (fun _ => true) true Tryd.f7.params.toList args.toList ds p := hA0
  rw [Tryd.params7] at hA hval hsz
  obtain ⟨v0, vs0, d0, ds0, p0, q0, hargs, rfl, rfl, h0, r0⟩ := trodAll_cons hA
  obtain ⟨v1, vs1, d1, ds1, p1, q1, rfl, rfl, rfl, h1, r1⟩ := trodAll_cons r0
  obtain ⟨v2, vs2, d2, ds2, p2, q2, rfl, rfl, rfl, h2, r2⟩ := trodAll_cons r1
  obtain ⟨rfl, rfl, rfl⟩ := trodAll_nil r2
  obtain rfl : args = #[v0, v1, v2] := by cases args; simp_all
  obtain ⟨rfl, rfl⟩ := trodVars_none hV
  obtain ⟨a0, len0, cap0, rfl⟩ := okWide_slice Tryd.underlying26 (hval 0 26 v0 rfl rfl)
  have k0 := h0
  have lt0 : ∀ x ∈ p0, x.block < W.heap.size := by obtain ⟨m, hm⟩ := k0; exact DataW.trod_lt m _ _ _ hm
  obtain ⟨b0, hbl0, hlim0, hrd0⟩ := arg_bytes Tryd.underlying26 Tryd.underlying5 (by kernel_rfl) (by kernel_rfl) h0 hsz (j := 0) rfl rfl
  obtain ⟨a1, len1, cap1, rfl⟩ := okWide_slice Tryd.underlying26 (hval 1 26 v1 rfl rfl)
  have k1 := h1
  have lt1 : ∀ x ∈ p1, x.block < W.heap.size := by obtain ⟨m, hm⟩ := k1; exact DataW.trod_lt m _ _ _ hm
  obtain ⟨b1, hbl1, hlim1, hrd1⟩ := arg_bytes Tryd.underlying26 Tryd.underlying5 (by kernel_rfl) (by kernel_rfl) h1 hsz (j := 1) rfl rfl
  obtain ⟨a2, rfl, rfl, rfl, w2⟩ := open_int Tryd.underlying5 (hval 2 5 v2 rfl rfl) h2
  clear hA0 hval0 hsz0
  refine (((c_ScanAnywhere S0 _ _ b0 b1 _) W (cx0 W) W _ ⟨rel0 W, glob_of hL⟩ (RdCells.cons hrd0 (RdCells.cons hrd1 (RdCells.cons (rd_int (wf_u8 w2)) RdCells.nil)))).calls (ent_of Tryd.func7 rfl rfl)).mono fun e W' ⟨u, he, t, c', S', hk, hm, hr, hR⟩ => ?_
  subst hR
  have hu := hr.lit_inv
  subst hu
  subst he
  have bel := hk.rel.below
  exact ⟨_, rfl, _, _, _, [], _, [], hW', trodAll_mk1 (shut_bool Tryd.underlying4 _), (trodAll_cons_mk (Below.trod laidOut (by kernel_rfl) (of_decide_eq_true (by kernel_rfl)) k0 bel lt0) (trodAll_cons_mk (Below.trod laidOut (by kernel_rfl) (of_decide_eq_true (by kernel_rfl)) k1 bel lt1) (trodAll_cons_mk (shut_int Tryd.underlying5 w2) trodAll_mk0))), rfl, bel.frame _, fun h => by cases h⟩
theorem scanAnywhere_holds : Rows.ScanAnywhereSaid :=
  OpenClaim.holds_of_wide 7 Tryd.f7 rfl rfl rfl rfl rfl rfl rfl ⟨rfl, rfl, rfl, rfl, rfl⟩ rfl rfl rfl rfl rfl (by kernel_rfl) Tryd.func7 (by kernel_rfl)
    (of_decide_eq_true (by kernel_rfl)) (by unfold Func.isWrapper; first | (rw [if_pos (by decide +kernel)]; kernel_rfl) | (rw [if_neg (by decide +kernel)]; exact ⟨rfl, rfl⟩))
    (fun os started H enc _ => scanAnywhere_lifted os started H enc)
theorem scanAnywhere_card : Rows.ScanAnywhereCardSaid :=
  Claim7.holds_tied_plain_at .later [] [.data, .pinned] true (true, "af2c4cd421eef38196a194f085c8187d1cb4e564a8b001a50e94556b8c59fbfe") false
    scanAnywhere_holds (fun _ h => by cases h) (by kernel_rfl) (fun _ h => by cases h) scanAnywhere_row_tie rfl ⟨rfl, rfl⟩ (by kernel_rfl) rfl
    (fun f fn hf hfn => by
      obtain rfl : f = 7 := Option.some.inj ((show Tryd.prog.funcNamed "godown/godownlaw08.ScanAnywhere" = some 7 by kernel_rfl).symm.trans hf) |>.symm
      obtain rfl : fn = Tryd.f7 := (Option.some.inj (Tryd.func7.symm.trans hfn)).symm
      exact ⟨by kernel_rfl, fun j t ht => by
        rw [Tryd.params7] at ht
        have hm : t ∈ [26, 26, 5] := by simpa using Array.mem_of_getElem? ht
        have hall : ([26, 26, 5].all fun u => !Tryd.prog.wantsStandIn u) = true := by kernel_rfl
        exact (show Tryd.prog.wantsStandIn t = false by simpa using List.all_eq_true.1 hall t hm)⟩)
    (by kernel_rfl)

end Go.Proofs.YtiijiejncefpmaaDoor
