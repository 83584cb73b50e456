/-
  Quiet operations over tree values, last: slicing, lengths, structs made of parts, look-ups in a map.
-/
import Derived.Test.YteafcknljhglkaaDoorTlE
set_option linter.unusedVariables false
set_option linter.unusedSimpArgs false
namespace Go.Proofs.YteafcknljhglkaaDoor.TL
open Go.RowKit

def intOfT : Option TV → Option (Option Int)
  | none => some none
  | some (.lit (.int _ n)) => some (some n)
  | _ => none

theorem intOfT_ok {c : Cx} {w : World} {x : Option TV} {v : Option Value} {n : Option Int} (h : intOfT x = some n) (hn : x.isNone = v.isNone) (hr : ∀ t u, x = some t → v = some u → RdT c w t u) :
    (n = none ∧ v = none) ∨ ∃ k m, n = some m ∧ v = some (.int k m) := by
  unfold intOfT at h
  split at h
  · injection h with h; subst h
    left
    refine ⟨rfl, ?_⟩
    cases v with
    | none => rfl
    | some u => simp at hn
  · rename_i k m
    injection h with h; subst h
    right
    cases v with
    | none => simp at hn
    | some u => exact ⟨k, m, rfl, by rw [(hr _ _ rfl rfl).lit_inv]⟩
  · cases h

/-- The bounds of a slice expression: low, high, and the capacity's end. -/
def bnd (len cap : Nat) (lo hi mx : Option Int) : Option (Nat × Nat × Nat) :=
  if (mx.isSome = true → hi.isSome = true) ∧ 0 ≤ lo.getD 0 ∧ lo.getD 0 ≤ hi.getD len ∧ hi.getD len ≤ mx.getD cap ∧ mx.getD cap ≤ cap ∧ (hi = none → len ≤ cap) then some ((lo.getD 0).toNat, (hi.getD len).toNat, (mx.getD cap).toNat) else none

theorem run_bnd {P : Program} {w : World} {len cap : Nat} {lo hi mx : Option Int} {vlo vhi vmx : Option Value} {isS : Bool} {r : Nat × Nat × Nat}
    (h1 : (lo = none ∧ vlo = none) ∨ ∃ k m, lo = some m ∧ vlo = some (.int k m)) (h2 : (hi = none ∧ vhi = none) ∨ ∃ k m, hi = some m ∧ vhi = some (.int k m))
    (h3 : (mx = none ∧ vmx = none) ∨ ∃ k m, mx = some m ∧ vmx = some (.int k m)) (h : bnd len cap lo hi mx = some r) :
    (Instr.sliceBounds isS len cap vlo vhi vmx).run P w = .ok r w := by
  unfold bnd at h
  split at h
  · rename_i hc
    injection h with h; subst h
    obtain ⟨c0, c1, c2, c3, c4, c5⟩ := hc
    rcases h3 with ⟨rfl, rfl⟩ | ⟨k3, m3, rfl, rfl⟩
    · rcases h2 with ⟨rfl, rfl⟩ | ⟨k2, m2, rfl, rfl⟩
      · rcases h1 with ⟨rfl, rfl⟩ | ⟨k1, m1, rfl, rfl⟩
        · simp [Instr.sliceBounds]
        · simp only [Option.getD_some, Option.getD_none] at c1 c2
          simp [Instr.sliceBounds, run_sliceBound, c1, c2]
      · rcases h1 with ⟨rfl, rfl⟩ | ⟨k1, m1, rfl, rfl⟩
        · simp only [Option.getD_some, Option.getD_none] at c1 c2 c3
          simp [Instr.sliceBounds, run_sliceBound, c1, c2, c3]
        · simp only [Option.getD_some, Option.getD_none] at c1 c2 c3
          have e : 0 ≤ m2 := by omega
          have e1 : m1 ≤ (m2.toNat : Int) := by omega
          have r1 := run_sliceBound (P := P) (w := w) k1 m1 m2.toNat .sliceB c1 e1
          simp [Instr.sliceBounds, run_sliceBound, c1, c2, c3, e, r1]
    · rcases h2 with ⟨rfl, rfl⟩ | ⟨k2, m2, rfl, rfl⟩
      · simp at c0
      · simp only [Option.getD_some, Option.getD_none] at c1 c2 c3 c4
        rcases h1 with ⟨rfl, rfl⟩ | ⟨k1, m1, rfl, rfl⟩
        · simp only [Option.getD_none] at c1 c2
          have e : 0 ≤ m3 := by omega
          have e2 : m2 ≤ (m3.toNat : Int) := by omega
          have r2 := run_sliceBound (P := P) (w := w) k2 m2 m3.toNat .slice3B c2 e2
          simp [Instr.sliceBounds, run_sliceBound, c1, c2, c3, c4, e, r2]
        · simp only [Option.getD_some] at c1 c2
          have e : 0 ≤ m3 := by omega
          have e0 : 0 ≤ m2 := by omega
          have e2 : m2 ≤ (m3.toNat : Int) := by omega
          have e1 : m1 ≤ (m2.toNat : Int) := by omega
          have r2 := run_sliceBound (P := P) (w := w) k2 m2 m3.toNat .slice3B e0 e2
          have r1 := run_sliceBound (P := P) (w := w) k1 m1 m2.toNat .slice3C c1 e1
          simp [Instr.sliceBounds, run_sliceBound, c1, c2, c3, c4, e, r1, r2]
  · cases h

theorem bnd_le {len cap l h m : Nat} {lo hi mx : Option Int} (hb : bnd len cap lo hi mx = some (l, h, m)) : l ≤ h ∧ h ≤ m ∧ m ≤ cap := by
  unfold bnd at hb
  split at hb
  · rename_i hc
    simp only [Option.some.injEq, Prod.mk.injEq] at hb
    obtain ⟨rfl, rfl, rfl⟩ := hb
    omega
  · cases hb

theorem RdD.sub_sl {A : Nat → Nat → Prop} {w : World} {s : Nat} {xs : List D} {a : Option Addr} {n cap l h m : Nat} (hd : RdD A w (.sl s xs) (.val (.slice a n cap))) (h1 : l ≤ h) (h2 : h ≤ n) (h3 : h ≤ m) :
    RdD A w (.sl s ((xs.take h).drop l)) (.val (.slice (if m = l then a else a.map (·.add (l * s))) (h - l) (m - l))) := by
  cases hd with
  | nil _ _ _ => 
    obtain rfl : h = 0 := by omega
    simpa using RdD.nil s _ _
  | sl _ _ b o _ _ hn hc hm hh =>
    by_cases hz : h - l = 0
    · have : (xs.take h).drop l = [] := by
        apply List.drop_eq_nil_of_le
        rw [List.length_take]; omega
      rw [this, hz]
      exact .nil _ _ _
    · have hlm : m ≠ l := by omega
      rw [if_neg hlm]
      simp only [Option.map_some, addr_add]
      refine .sl s _ b _ _ _ (by simp; omega) (by omega) (by omega) ?_
      intro i t hi
      rw [List.getElem?_drop, List.getElem?_take] at hi
      split at hi
      · have := hh _ t hi
        rwa [Nat.add_mul, ← Nat.add_assoc] at this
      · cases hi

def tvSlice (size : Nat) (x : TV) (lo hi mx : Option Int) : Option TV :=
  match x with
  | .sl g s xs =>
    if s = size then
      match hi, mx with
      | none, none => if 0 ≤ lo.getD 0 ∧ lo.getD 0 ≤ xs.length then some (.sl g s (xs.drop (lo.getD 0).toNat)) else none
      | some h, none => if 0 ≤ lo.getD 0 ∧ lo.getD 0 ≤ h ∧ h ≤ xs.length then some (.sl .none s ((xs.take h.toNat).drop (lo.getD 0).toNat)) else none
      | some h, some m => if 0 ≤ lo.getD 0 ∧ lo.getD 0 ≤ h ∧ h = m ∧ h ≤ xs.length then some (.sl .full s ((xs.take h.toNat).drop (lo.getD 0).toNat)) else none
      | _, _ => none
    else none
  | .vs id off s len =>
    match mx with
    | none => if s = size ∧ 0 ≤ lo.getD 0 ∧ lo.getD 0 ≤ hi.getD len ∧ hi.getD len ≤ len then some (.vs id (off + (lo.getD 0).toNat * s) s ((hi.getD len).toNat - (lo.getD 0).toNat)) else none
    | some _ => none
  | _ => none

theorem run_slice_sl {P : Program} {t e : Nat} {i j : TI} (ht : TyIs P t i) (hd : i.desc = .slice e) (hj : TyIs P e j) {a : Option Addr} {len cap l h m : Nat} {lo hi mx : Option Value} {w : World}
    (hb : (Instr.sliceBounds true len cap lo hi mx).run P w = .ok (l, h, m) w) :
    (Instr.sliceAt t (.slice a len cap) lo hi mx).run P w = .ok (.slice (if m = l then a else a.map (·.add (l * j.size))) (h - l) (m - l)) w := by
  unfold Instr.sliceAt
  simp only [Sem.run_bind, ht.run_und, Result.andThen_ok, hd]
  unfold Instr.slice
  simp only [Sem.run_bind, ht.run_und, Result.andThen_ok, hd, hb, hj.run_size, Sem.run_pure]

theorem q_slice {E : Env} {o : Oper} {T : Nat → TV} {S : TS} {t : TypeId} {x : Operand} {lo hi mx : Option Operand} (ho : o.op = .slice t x lo hi mx) {e : Nat} {i j : TI} {nl nh nm : Option Int} {r : TV}
    (ht : tiOf E.P t = some i) (hd : i.desc = .slice e) (hj : tiOf E.P e = some j) (hl : intOfT (lo.map (evO E T)) = some nl) (hh : intOfT (hi.map (evO E T)) = some nh) (hm : intOfT (mx.map (evO E T)) = some nm)
    (hr : tvSlice j.size (evO E T x) nl nh nm = some r) : QSem E o T S r := by
  intro w0 c w act hk hop
  rw [ho] at hop
  have hx := hop x (by simp [Op.operands])
  have b1 := intOfT_ok (c := c) (w := w) (v := lo.map act.eval) hl (by cases lo <;> rfl) (fun t u h1 h2 => by
    cases lo with
    | none => cases h1
    | some y => simp only [Option.map_some, Option.some.injEq] at h1 h2; subst h1 h2; exact hop y (by simp [Op.operands]))
  have b2 := intOfT_ok (c := c) (w := w) (v := hi.map act.eval) hh (by cases hi <;> rfl) (fun t u h1 h2 => by
    cases hi with
    | none => cases h1
    | some y => simp only [Option.map_some, Option.some.injEq] at h1 h2; subst h1 h2; exact hop y (by simp [Op.operands]))
  have b3 := intOfT_ok (c := c) (w := w) (v := mx.map act.eval) hm (by cases mx <;> rfl) (fun t u h1 h2 => by
    cases mx with
    | none => cases h1
    | some y => simp only [Option.map_some, Option.some.injEq] at h1 h2; subst h1 h2; exact hop y (by simp [Op.operands]))
  suffices H : ∃ u, (Instr.sliceAt t (act.eval x) (lo.map act.eval) (hi.map act.eval) (mx.map act.eval)).run E.P w = .ok u w ∧ RdT c w r u by
    obtain ⟨u, h1, h2⟩ := H
    refine ⟨u, ?_, h2⟩
    unfold execOp
    rw [ho]
    simp only [Sem.run_bind, h1, Result.andThen_ok, Sem.run_pure]
  generalize act.eval x = v at hx
  generalize evO E T x = tx at hx hr
  generalize lo.map act.eval = vlo at *
  generalize hi.map act.eval = vhi at *
  generalize mx.map act.eval = vmx at *
  cases hx with
  | sl g s xs _ hd' hg =>
    have hform : ∃ a n cap, v = .slice a n cap ∧ xs.length = n ∧ n ≤ cap := by
      cases hd' with
      | nil _ a cap => exact ⟨a, 0, cap, rfl, rfl, by omega⟩
      | sl _ _ b o n cap hn hc _ _ => exact ⟨_, n, cap, rfl, hn, hc⟩
    obtain ⟨a, n, cap, rfl, hn, hc⟩ := hform
    simp only [tvSlice] at hr
    split at hr
    · rename_i hs
      split at hr
      · split at hr
        · rename_i hcond
          injection hr with hr; subst hr
          have hb : bnd n cap nl none none = some ((nl.getD 0).toNat, n, cap) := by
            unfold bnd
            rw [if_pos (by simp only [Option.getD_none]; refine ⟨by simp, hcond.1, ?_, ?_, ?_, fun _ => hc⟩ <;> omega)]
            simp
          refine ⟨_, run_slice_sl (tyIs ht) hd (tyIs hj) (run_bnd b1 b2 b3 hb), ?_⟩
          have := hd'.sub_sl (l := (nl.getD 0).toNat) (h := n) (m := cap) (by omega) (Nat.le_refl _) hc
          rw [List.take_of_length_le (by omega)] at this
          refine .sl _ _ _ _ (by rw [← hs]; exact this) ?_
          cases g with
          | none => trivial
          | full =>
            have : cap = n := hg
            show cap - _ = n - _
            rw [this]
          | own k =>
            obtain ⟨hg0, hg⟩ := hg
            refine ⟨hg0, ?_⟩
            rcases hg with hg | ⟨b, p, e', z, rfl, h2, h3, h4⟩
            · exact .inl (by rw [hg])
            · by_cases hcl : cap = (nl.getD 0).toNat
              · exact .inl (by omega)
              · refine .inr ⟨b, p + (nl.getD 0).toNat * j.size, e', z, ?_, h2, ?_, ?_⟩
                · rw [if_neg hcl]; simp [addr_add]
                · rw [hs, Nat.add_assoc, ← Nat.add_mul]
                  rw [hs] at h3
                  rw [show (nl.getD 0).toNat + (n - (nl.getD 0).toNat) = n by omega]
                  exact h3
                · rw [hs, Nat.add_assoc, ← Nat.add_mul]
                  rw [hs] at h4
                  rw [show (nl.getD 0).toNat + (cap - (nl.getD 0).toNat) = cap by omega]
                  exact h4
        · cases hr
      · rename_i hh'
        split at hr
        · rename_i hcond
          injection hr with hr; subst hr
          have hb : bnd n cap nl (some hh') none = some ((nl.getD 0).toNat, hh'.toNat, cap) := by
            unfold bnd
            rw [if_pos (by simp only [Option.getD_none, Option.getD_some]; refine ⟨by simp, hcond.1, hcond.2.1, ?_, ?_, fun h => by cases h⟩ <;> omega)]
            simp
          refine ⟨_, run_slice_sl (tyIs ht) hd (tyIs hj) (run_bnd b1 b2 b3 hb), ?_⟩
          have := hd'.sub_sl (l := (nl.getD 0).toNat) (h := hh'.toNat) (m := cap) (by omega) (by omega) (by omega)
          exact .sl _ _ _ _ (by rw [← hs]; exact this) trivial
        · cases hr
      · rename_i hh' mm
        split at hr
        · rename_i hcond
          injection hr with hr; subst hr
          have hb : bnd n cap nl (some hh') (some mm) = some ((nl.getD 0).toNat, hh'.toNat, mm.toNat) := by
            unfold bnd
            rw [if_pos (by simp only [Option.getD_none, Option.getD_some]; refine ⟨by simp, hcond.1, hcond.2.1, ?_, ?_, fun h => by cases h⟩ <;> omega)]
            simp
          refine ⟨_, run_slice_sl (tyIs ht) hd (tyIs hj) (run_bnd b1 b2 b3 hb), ?_⟩
          have := hd'.sub_sl (l := (nl.getD 0).toNat) (h := hh'.toNat) (m := mm.toNat) (by omega) (by omega) (by omega)
          refine .sl _ _ _ _ (by rw [← hs]; exact this) ?_
          show mm.toNat - _ = hh'.toNat - _
          rw [hcond.2.2.1]
        · cases hr
      · cases hr
    · cases hr
  | vsN id off s a hn =>
    simp only [tvSlice] at hr
    split at hr
    · split at hr
      · rename_i hcond
        obtain ⟨hs, c1, c2, c3⟩ := hcond
        injection hr with hr; subst hr
        have z1 : (nl.getD 0).toNat = 0 := by omega
        have z2 : (nh.getD ((0 : Nat) : Int)).toNat = 0 := by omega
        have hb : bnd 0 0 nl nh none = some (0, 0, 0) := by
          unfold bnd
          rw [if_pos (by simp only [Option.getD_none]; refine ⟨by simp, c1, c2, ?_, ?_, fun _ => Nat.le_refl _⟩ <;> omega)]
          simp [z1]; omega
        refine ⟨_, run_slice_sl (tyIs ht) hd (tyIs hj) (run_bnd b1 b2 b3 hb), ?_⟩
        rw [z1, z2]
        exact .vsN _ _ _ _ hn
      · cases hr
    · cases hr
  | vs id off s len cap b e' hγ hc hz =>
    simp only [tvSlice] at hr
    split at hr
    · split at hr
      · rename_i hcond
        obtain ⟨hs, c1, c2, c3⟩ := hcond
        injection hr with hr; subst hr
        have hb : bnd len cap nl nh none = some ((nl.getD 0).toNat, (nh.getD len).toNat, cap) := by
          unfold bnd
          rw [if_pos (by simp only [Option.getD_none]; refine ⟨by simp, c1, c2, ?_, ?_, fun _ => hc⟩ <;> omega)]
          simp
        refine ⟨_, run_slice_sl (tyIs ht) hd (tyIs hj) (run_bnd b1 b2 b3 hb), ?_⟩
        rw [← hs]
        by_cases hcl : cap = (nl.getD 0).toNat
        · have z2 : (nh.getD (len : Int)).toNat - (nl.getD 0).toNat = 0 := by omega
          rw [z2, show cap - (nl.getD 0).toNat = 0 by omega]
          exact .vsN _ _ _ _ (by rw [hk.rel.cn]; exact hk.rel.dom _ _ hγ)
        · rw [if_neg hcl]
          simp only [Option.map_some, addr_add, Nat.add_assoc]
          refine .vs _ _ _ _ _ b e' hγ (by omega) ?_
          have h1 : (nl.getD 0).toNat + (cap - (nl.getD 0).toNat) = cap := by omega
          rw [← Nat.add_assoc, Nat.add_assoc (e'.1 + off), ← Nat.add_mul, h1]
          exact hz
      · cases hr
    · cases hr
  | _ => simp [tvSlice] at hr

/-- A slice of an array that lies at a place. -/
theorem q_sliceArr {E : Env} {o : Oper} {T : Nat → TV} {S : TS} {t : TypeId} {x : Operand} {lo hi : Option Operand} (ho : o.op = .slice t x lo hi none) {e n id off : Nat} {i j : TI} {nl nh : Option Int}
    (ht : tiOf E.P t = some i) (hd : i.desc = .array n e) (hj : tiOf E.P e = some j) (hl : intOfT (lo.map (evO E T)) = some nl) (hh : intOfT (hi.map (evO E T)) = some nh)
    (hx : evO E T x = .ptr id off) {et : TypeId} {cs : List TV} (hobj : S.objs id = .cells et cs) (hroom : off + n * j.size ≤ cs.length) (h0 : 0 ≤ nl.getD 0) (h1 : nl.getD 0 ≤ nh.getD n) (h2 : nh.getD n ≤ n) (h3 : nl.getD 0 < n) : QSem E o T S (.vs id (off + (nl.getD 0).toNat * j.size) j.size ((nh.getD n).toNat - (nl.getD 0).toNat)) := by
  intro w0 c w act hk hop
  rw [ho] at hop
  have hx' := hop x (by simp [Op.operands])
  rw [hx] at hx'
  have b1 := intOfT_ok (c := c) (w := w) (v := lo.map act.eval) hl (by cases lo <;> rfl) (fun t u h1 h2 => by
    cases lo with
    | none => cases h1
    | some y => simp only [Option.map_some, Option.some.injEq] at h1 h2; subst h1 h2; exact hop y (by simp [Op.operands]))
  have b2 := intOfT_ok (c := c) (w := w) (v := hi.map act.eval) hh (by cases hi <;> rfl) (fun t u h1 h2 => by
    cases hi with
    | none => cases h1
    | some y => simp only [Option.map_some, Option.some.injEq] at h1 h2; subst h1 h2; exact hop y (by simp [Op.operands]))
  have hb : bnd n n nl nh none = some ((nl.getD 0).toNat, (nh.getD n).toNat, n) := by
    unfold bnd
    rw [if_pos (by simp only [Option.getD_none]; refine ⟨by simp, h0, h1, ?_, ?_, fun _ => ?_⟩ <;> omega)]
    simp
  generalize hv : act.eval x = v at hx'
  cases hx' with
  | ptr _ _ b e' hγ =>
    have hbr := run_bnd (P := E.P) (w := w) (isS := false) b1 b2 (.inl ⟨rfl, rfl⟩) hb
    refine ⟨_, ?_, .vs _ (off + (nl.getD 0).toNat * j.size) _ _ (n - (nl.getD 0).toNat) b e' hγ (by omega) (by
      have h1 : (nl.getD 0).toNat + (n - (nl.getD 0).toNat) = n := by omega
      rw [← Nat.add_assoc, Nat.add_assoc (e'.1 + off), ← Nat.add_mul, h1]
      have := hk.rel.roomOf hobj hγ hroom
      omega)⟩
    unfold execOp
    rw [ho]
    simp only [hv, Instr.sliceAt, Sem.run_bind, (tyIs ht).run_und, Result.andThen_ok, hd, Instr.sureAddr, Sem.run_pure, Option.map_none, hbr, (tyIs hj).run_size]
    rw [if_neg (by omega)]
    simp [addr_add, Nat.add_assoc]

theorem q_sliceStr {E : Env} {o : Oper} {T : Nat → TV} {S : TS} {t : TypeId} {x : Operand} {lo hi : Option Operand} (ho : o.op = .slice t x lo hi none) {v : ByteArray} {i : TI} {nl nh : Option Int}
    (ht : tiOf E.P t = some i) (hd : i.desc = .string) (hl : intOfT (lo.map (evO E T)) = some nl) (hh : intOfT (hi.map (evO E T)) = some nh)
    (hx : evO E T x = .lit (.string v)) (h0 : 0 ≤ nl.getD 0) (h1 : nl.getD 0 ≤ nh.getD v.size) (h2 : nh.getD v.size ≤ v.size) : QSem E o T S (.lit (.string (v.extract (nl.getD 0).toNat (nh.getD v.size).toNat))) := by
  intro w0 c w act hk hop
  rw [ho] at hop
  have hx' := hop x (by simp [Op.operands])
  rw [hx] at hx'
  have ex := hx'.lit_inv
  have b1 := intOfT_ok (c := c) (w := w) (v := lo.map act.eval) hl (by cases lo <;> rfl) (fun t u h1 h2 => by
    cases lo with
    | none => cases h1
    | some y => simp only [Option.map_some, Option.some.injEq] at h1 h2; subst h1 h2; exact hop y (by simp [Op.operands]))
  have b2 := intOfT_ok (c := c) (w := w) (v := hi.map act.eval) hh (by cases hi <;> rfl) (fun t u h1 h2 => by
    cases hi with
    | none => cases h1
    | some y => simp only [Option.map_some, Option.some.injEq] at h1 h2; subst h1 h2; exact hop y (by simp [Op.operands]))
  have hb : bnd v.size v.size nl nh none = some ((nl.getD 0).toNat, (nh.getD v.size).toNat, v.size) := by
    unfold bnd
    rw [if_pos (by simp only [Option.getD_none]; refine ⟨by simp, h0, h1, ?_, ?_, fun _ => ?_⟩ <;> omega)]
    simp
  have hbr := run_bnd (P := E.P) (w := w) (isS := false) b1 b2 (.inl ⟨rfl, rfl⟩) hb
  refine ⟨_, ?_, .lit _⟩
  unfold execOp
  rw [ho]
  simp only [ex, Instr.sliceAt, Sem.run_bind, (tyIs ht).run_und, Result.andThen_ok, hd, Option.map_none, Instr.slice, Option.isSome_none, Bool.false_eq_true, if_false, hbr, Sem.run_pure]

/-! ### lengths -/
theorem q_len {E : Env} {o : Oper} {T : Nat → TV} {S : TS} {x : Operand} {t : TypeId} {ty : Array TypeId} (ho : o.op = .call { callee := .builtin .len, args := #[x], argTypes := ty }) (hty : ty[0]? = some t) {i : TI} (ht : tiOf E.P t = some i) {n : Nat}
    (h : match i.desc, evO E T x with
      | .slice _, .sl _ _ xs => n = xs.length
      | .slice _, .vs _ _ _ len => n = len
      | .string, .lit (.string v) => n = v.size
      | .array k _, _ => n = k
      | .map _ _, .lit (.map none) => n = 0
      | .map _ _, .mp id => ∃ es, S.objs id = .map es ∧ n = es.length
      | _, _ => False) : QSem E o T S (.lit (.int .i64 n)) := by
  intro w0 c w act hk hop
  rw [ho] at hop
  have hx := hop x (by simp [Op.operands, Call.operands])
  refine ⟨.int .i64 n, ?_, .lit _⟩
  unfold execOp
  rw [ho]
  simp only [resolve, Sem.run_bind, Sem.run_pure, Result.andThen_ok, invoke, builtin, Builtin.len_, hty, List.map_toArray, List.map_cons, List.map_nil, List.getElem?_toArray, List.getElem?_cons_zero, (tyIs ht).run_und]
  generalize act.eval x = v at hx
  generalize hdd : i.desc = dd at h
  generalize evO E T x = tx at hx h
  split at h
  · subst h
    cases hx with
    | sl _ _ _ _ hd _ => cases hd with
      | nil => simp [goInt]
      | sl _ _ b o n cap hn hc hm hh => subst hn; simp [goInt]
  · subst h
    cases hx with
    | vs => simp [goInt]
    | vsN => simp [goInt]
  · subst h
    have := hx.lit_inv; subst this
    simp [goInt]
  · subst h
    simp [goInt]
  · subst h
    have := hx.lit_inv; subst this
    simp [goInt]
  · obtain ⟨es, h1, rfl⟩ := h
    cases hx with
    | mp id' b e hγ =>
      have hob := hk.rel.obj _ (hk.rel.dom _ _ hγ)
      rw [h1] at hob
      obtain ⟨b', e2, g1, _, ents, clock, hh, hsz, _⟩ := hob
      rw [hγ] at g1
      injection g1 with g1; injection g1 with g1 g2; subst g1 g2
      simp [goInt, hh, hsz, getObj, Sem.run]
  · exact h.elim
end Go.Proofs.YteafcknljhglkaaDoor.TL
