/-
  One operation over tree values, computed: quiet ones, and all.
-/
import Derived.Test.YteafcknljhglkaaDoorTlM
set_option linter.unusedVariables false
set_option linter.unusedSimpArgs false
namespace Go.Proofs.YteafcknljhglkaaDoor.TL
open Go.RowKit

def wfS (S : TS) : Prop := ∀ id, S.n ≤ id → S.objs id = .gone
def Keep (S S' : TS) : Prop := S.n ≤ S'.n ∧ ∀ id, id < S.n → S'.objs id = S.objs id
def QStab (E : Env) (o : Oper) (T : Nat → TV) (S : TS) (v : TV) : Prop := ∀ S', wfS S → Keep S S' → QSem E o T S' v

theorem Keep.refl (S : TS) : Keep S S := ⟨Nat.le_refl _, fun _ _ => rfl⟩
theorem Keep.trans {S S1 S2 : TS} (h : Keep S S1) (k : Keep S1 S2) : Keep S S2 := ⟨Nat.le_trans h.1 k.1, fun id hi => (k.2 id (Nat.lt_of_lt_of_le hi h.1)).trans (h.2 id hi)⟩
theorem Keep.push (S : TS) (o : TObj) : Keep S (S.push o) := ⟨Nat.le_succ _, fun id hi => by rw [TS.push_objs, if_neg (by omega)]⟩
theorem Keep.obj {S S' : TS} (h : Keep S S') (hw : wfS S) {id : Nat} {o : TObj} (ho : S.objs id = o) (hl : o.live = true) : S'.objs id = o := by
  rcases Nat.lt_or_ge id S.n with h1 | h1
  · rw [h.2 id h1, ho]
  · rw [hw id h1] at ho; subst ho; cases hl
theorem QStab.of {E : Env} {o : Oper} {T : Nat → TV} {S : TS} {v : TV} (h : ∀ S', QSem E o T S' v) : QStab E o T S v := fun S' _ _ => h S'

/-- A variable's value, loaded. -/
def loadT (P : Program) (S : TS) (t : TypeId) (x : TV) (K : TV → Prop) : Prop :=
  match tiOf P t with
  | none => False
  | some i =>
    match x with
    | .ptr id off =>
      match S.objs id with
      | .cells _ cs => if isAggD i.desc = true then off + i.size ≤ cs.length ∧ K (.agg ((cs.drop off).take i.size)) else off < cs.length ∧ K (cs.getD off .unk)
      | _ => False
    | .eptr s d => isAggD i.desc = d.isAgg ∧ (d.isAgg = true → s = i.size) ∧ K (ofD d)
    | _ => False

def fieldT (P : Program) (t : TypeId) (f : Nat) (K : Field → TI → Prop) : Prop :=
  match tiOf P t with
  | some { desc := .struct fs, .. } =>
    match fs[f]? with
    | some fld => match tiOf P fld.type with | some j => K fld j | none => False
    | none => False
  | _ => False

/-- Comparisons with nil, and of truth values. -/
def isNilT : TV → Option Bool
  | .lit (.pointer none) | .lit (.map none) | .lit .nilFunc => some true
  | .ptr _ _ | .eptr _ _ | .mp _ | .fn _ _ _ => some false
  | _ => none

def quietT (E : Env) (o : Oper) (T : Nat → TV) (S : TS) (K : TV → Prop) : Prop :=
  match o.op with
  | .move x | .assign x => K (evO E T x)
  | .pick c x y => match evO E T c with
    | .lit (.bool b) => K (if b = true then evO E T x else evO E T y)
    | _ => False
  | .binOp op ty x y _ => match evO E T x, evO E T y with
    | .lit a, .lit b => match tvBin E.P op ty a b with
      | some r => K (.lit r)
      | none => False
    | _, _ => False
  | .unOp op _ x => match evO E T x with
    | .lit a => match tvUn op a with
      | some r => K (.lit r)
      | none => False
    | _ => False
  | .convert s d x => match tiOf E.P s, tiOf E.P d with
    | some i, some j => match evO E T x with
      | .lit (.int _ n) => match j.desc with
        | .int k' => K (.lit (.int k' (k'.wrap n)))
        | _ => False
      | .lit (.string v) => match j.desc with
        | .string => K (.lit (.string v))
        | _ => False
      | .sl _ s xs => match i.desc with
        | .slice e => match tiOf E.P e with
          | some ie => s = 1 ∧ ie.desc = .int .u8 ∧ j.desc = .string ∧ (match unbytes xs with | some ns => K (.lit (.string (strOfNums ns))) | none => False)
          | none => False
        | _ => False
      | _ => False
    | _, _ => False
  | .load t x => loadT E.P S t (evO E T x) K
  | .fieldAddr t x f => fieldT E.P t f fun fld j => 0 < j.size ∧ (match evO E T x with
    | .ptr id off => K (.ptr id (off + fld.offset))
    | .eptr _ (.agg cs) => match partE (isAggD j.desc) cs fld.offset j.size with
      | some r => K r
      | none => False
    | _ => False)
  | .field t x f => fieldT E.P t f fun fld j => match evO E T x with
    | .agg cs => match partT (isAggD j.desc) cs fld.offset j.size with
      | some r => K r
      | none => False
    | _ => False
  | .indexAddr t x y => match evO E T y, tiOf E.P t with
    | .lit (.int _ m), some { desc := .array n e, .. } => match tiOf E.P e with
      | some j => 0 ≤ m ∧ m < n ∧ (match evO E T x with
        | .ptr id off => K (.ptr id (off + m.toNat * j.size))
        | .eptr _ (.agg cs) => match partE (isAggD j.desc) cs (m.toNat * j.size) j.size with
          | some r => K r
          | none => False
        | _ => False)
      | none => False
    | .lit (.int _ m), some { desc := .slice e, .. } => match tiOf E.P e with
      | some j => match evO E T x with
        | .sl _ s xs => 0 ≤ m ∧ m < xs.length ∧ s = j.size ∧ K (.eptr s (xs.getD m.toNat default))
        | .vs id off s len => 0 ≤ m ∧ m < len ∧ s = j.size ∧ K (.ptr id (off + m.toNat * s))
        | _ => False
      | none => False
    | _, _ => False
  | .index t x y => match evO E T y, tiOf E.P t with
    | .lit (.int _ m), some { desc := .array n e, .. } => match tiOf E.P e, evO E T x with
      | some j, .agg cs => 0 ≤ m ∧ m < n ∧ (match partT (isAggD j.desc) cs (m.toNat * j.size) j.size with
        | some r => K r
        | none => False)
      | _, _ => False
    | .lit (.int _ m), some { desc := .string, .. } => match evO E T x with
      | .lit (.string v) => 0 ≤ m ∧ ∃ h : m.toNat < v.size, K (.lit (.int .u8 (v[m.toNat]'h).toNat))
      | _ => False
    | _, _ => False
  | .slice t x lo hi mx => match intOfT (lo.map (evO E T)), intOfT (hi.map (evO E T)), intOfT (mx.map (evO E T)), tiOf E.P t with
    | some nl, some nh, some nm, some { desc := .slice e, .. } => match tiOf E.P e with
      | some j => match tvSlice j.size (evO E T x) nl nh nm with
        | some r => K r
        | none => False
      | none => False
    | some nl, some nh, some none, some { desc := .array n e, .. } => match tiOf E.P e, evO E T x with
      | some j, .ptr id off => match S.objs id with
        | .cells _ cs => mx = none ∧ off + n * j.size ≤ cs.length ∧ 0 ≤ nl.getD 0 ∧ nl.getD 0 ≤ nh.getD n ∧ nh.getD n ≤ n ∧ nl.getD 0 < n ∧ K (.vs id (off + (nl.getD 0).toNat * j.size) j.size ((nh.getD n).toNat - (nl.getD 0).toNat))
        | _ => False
      | _, _ => False
    | some nl, some nh, some none, some { desc := .string, .. } => match evO E T x with
      | .lit (.string v) => mx = none ∧ 0 ≤ nl.getD 0 ∧ nl.getD 0 ≤ nh.getD v.size ∧ nh.getD v.size ≤ v.size ∧ K (.lit (.string (v.extract (nl.getD 0).toNat (nh.getD v.size).toNat)))
      | _ => False
    | _, _, _, _ => False
  | .extract x k => match evO E T x with
    | .tup ts => match ts[k]? with
      | some r => K r
      | none => False
    | _ => False
  | .nilCheck x => match evO E T x with
    | .ptr id off => K (.ptr id off)
    | .eptr s d => K (.eptr s d)
    | _ => False
  | .makeFunc f first cap => K (.fn f (first.toList.map (evO E T)) (cap.toList.map (evO E T)))
  | .build t ps => match tiOf E.P t with
    | some i => match i.desc with
      | .struct fs => match placesOf E.P fs.toList with
        | some pl => cellT (ofConst i.zero) = true ∧ (match fillT (pl[·]?) (cellsT (ofConst i.zero)) (partsT E T ps) with | some cs => K (.agg cs) | none => False)
        | none => False
      | _ => False
    | none => False
  | .call { callee := .builtin .len, args, argTypes } => match args.toList, argTypes.toList with
    | [x], [t] => match tiOf E.P t with
      | some i => match i.desc, evO E T x with
        | .slice _, .sl _ _ xs => K (.lit (.int .i64 xs.length))
        | .slice _, .vs _ _ _ len => K (.lit (.int .i64 len))
        | .string, .lit (.string v) => K (.lit (.int .i64 v.size))
        | .array k _, _ => K (.lit (.int .i64 k))
        | .map _ _, .lit (.map none) => K (.lit (.int .i64 (0 : Nat)))
        | .map _ _, .mp id => match S.objs id with
          | .map es => K (.lit (.int .i64 es.length))
          | _ => False
        | _, _ => False
      | none => False
    | _, _ => False
  | _ => False

theorem loadT_ok {E : Env} {o : Oper} {T : Nat → TV} {S : TS} {t : TypeId} {x : Operand} {K : TV → Prop} (ho : o.op = .load t x) (h : loadT E.P S t (evO E T x) K) : ∃ v, QStab E o T S v ∧ K v := by
  unfold loadT at h
  split at h
  · exact h.elim
  · rename_i i hi
    split at h
    · rename_i id off hx
      split at h
      · rename_i e cs hobj
        split at h
        · rename_i hag
          exact ⟨_, fun S' hw hk => q_loadP ho hi hx (hk.obj hw hobj rfl) (by rw [if_pos hag]; exact ⟨h.1, rfl⟩), h.2⟩
        · rename_i hag
          refine ⟨_, fun S' hw hk => q_loadP ho hi hx (hk.obj hw hobj rfl) (by rw [if_neg hag]; simp [List.getD_eq_getElem?_getD, List.getElem?_eq_getElem h.1]), h.2⟩
      · exact h.elim
    · rename_i s d hx
      exact ⟨_, .of fun S' => q_loadE ho hi hx h.1 h.2.1, h.2.2⟩
    · exact h.elim

theorem fieldT_ok {P : Program} {t : TypeId} {f : Nat} {K : Field → TI → Prop} (h : fieldT P t f K) : ∃ i fs fld j, tiOf P t = some i ∧ i.desc = .struct fs ∧ fs[f]? = some fld ∧ tiOf P fld.type = some j ∧ K fld j := by
  unfold fieldT at h
  split at h
  · rename_i fs sz b z hi
    split at h
    · rename_i fld hf
      split at h
      · rename_i j hj
        exact ⟨_, fs, fld, j, hi, rfl, hf, hj, h⟩
      · exact h.elim
    · exact h.elim
  · exact h.elim

set_option maxHeartbeats 1000000 in
theorem quietT_ok {E : Env} {o : Oper} {T : Nat → TV} {S : TS} {K : TV → Prop} (h : quietT E o T S K) : ∃ v, QStab E o T S v ∧ K v := by
  unfold quietT at h
  split at h
  · rename_i x ho; exact ⟨_, .of fun S' => q_move (.inl ho), h⟩
  · rename_i x ho; exact ⟨_, .of fun S' => q_move (.inr ho), h⟩
  · rename_i c x y ho
    split at h
    · rename_i b hb; exact ⟨_, .of fun S' => q_pick ho hb, h⟩
    · exact h.elim
  · rename_i op ty x y yt ho
    split at h
    · rename_i a b hx hy
      split at h
      · rename_i r hr; exact ⟨_, .of fun S' => q_bin ho hx hy hr, h⟩
      · exact h.elim
    · exact h.elim
  · rename_i op ty x ho
    split at h
    · rename_i a hx
      split at h
      · rename_i r hr; exact ⟨_, .of fun S' => q_un ho hx hr, h⟩
      · exact h.elim
    · exact h.elim
  · rename_i s d x ho
    split at h
    · rename_i i j hi hj
      split at h
      · rename_i k n hx
        split at h
        · rename_i k' hd; exact ⟨_, .of fun S' => q_convInt ho hi hj hd hx, h⟩
        · exact h.elim
      · rename_i v hx
        split at h
        · rename_i hd; exact ⟨_, .of fun S' => q_convStr ho hi hj hd hx, h⟩
        · exact h.elim
      · rename_i g s' xs hx
        split at h
        · rename_i e he
          split at h
          · rename_i ie hie
            obtain ⟨h1, h2, h3, h4⟩ := h
            split at h4
            · rename_i ns hns
              subst h1
              exact ⟨_, .of fun S' => q_bytesStr ho hi he hie h2 hj h3 hx hns, h4⟩
            · exact h4.elim
          · exact h.elim
        · exact h.elim
      · exact h.elim
    · exact h.elim
  · rename_i t x ho; exact loadT_ok ho h
  · rename_i t x f ho
    obtain ⟨i, fs, fld, j, h1, h2, h3, h4, h5, h6⟩ := fieldT_ok h
    split at h6
    · rename_i id off hx; exact ⟨_, .of fun S' => q_fieldP ho h1 h2 h3 h4 h5 hx, h6⟩
    · rename_i s cs hx
      split at h6
      · rename_i r hr; exact ⟨_, .of fun S' => q_fieldE ho h1 h2 h3 h4 h5 hx hr, h6⟩
      · exact h6.elim
    · exact h6.elim
  · rename_i t x f ho
    obtain ⟨i, fs, fld, j, h1, h2, h3, h4, h6⟩ := fieldT_ok h
    split at h6
    · rename_i cs hx
      split at h6
      · rename_i r hr; exact ⟨_, .of fun S' => q_field ho h1 h2 h3 h4 hx hr, h6⟩
      · exact h6.elim
    · exact h6.elim
  · rename_i t x y ho
    split at h
    · rename_i k m n e sz b z hy ht
      split at h
      · rename_i j hj
        obtain ⟨h0, h1, h2⟩ := h
        split at h2
        · rename_i id off hx; exact ⟨_, .of fun S' => q_indexAddrP ho ht rfl hj hx hy h0 h1, h2⟩
        · rename_i s cs hx
          split at h2
          · rename_i r hr; exact ⟨_, .of fun S' => q_indexAddrE ho ht rfl hj hx hy h0 h1 hr, h2⟩
          · exact h2.elim
        · exact h2.elim
      · exact h.elim
    · rename_i k m e sz b z hy ht
      split at h
      · rename_i j hj
        split at h
        · rename_i g s xs hx
          obtain ⟨h0, h1, h2, h3⟩ := h
          exact ⟨_, .of fun S' => q_indexAddrS ho ht rfl hj hx hy h0 h1 h2, h3⟩
        · rename_i id off s len hx
          obtain ⟨h0, h1, h2, h3⟩ := h
          exact ⟨_, .of fun S' => q_indexAddrV ho ht rfl hj hx hy h0 h1 h2, h3⟩
        · exact h.elim
      · exact h.elim
    · exact h.elim
  · rename_i t x y ho
    split at h
    · rename_i k m n e sz b z hy ht
      split at h
      · rename_i j cs hj hx
        obtain ⟨h0, h1, h2⟩ := h
        split at h2
        · rename_i r hr; exact ⟨_, .of fun S' => q_indexA ho ht rfl hj hx hy h0 h1 hr, h2⟩
        · exact h2.elim
      · exact h.elim
    · rename_i k m sz b z hy ht
      split at h
      · rename_i v hx
        obtain ⟨h0, h1, h2⟩ := h
        exact ⟨_, .of fun S' => q_indexStr ho ht rfl hx hy h0 h1, h2⟩
      · exact h.elim
    · exact h.elim
  · rename_i t x lo hi mx ho
    split at h
    · rename_i nl nh nm e sz b z hl hh hm ht
      split at h
      · rename_i j hj
        split at h
        · rename_i r hr; exact ⟨_, .of fun S' => q_slice ho ht rfl hj hl hh hm hr, h⟩
        · exact h.elim
      · exact h.elim
    · rename_i nl nh n e sz b z hl hh hm ht
      split at h
      · rename_i j id off hj hx
        split at h
        · rename_i et cs hobj
          obtain ⟨h0, hr, h1, h2, h3, h4, h5⟩ := h
          subst h0
          exact ⟨_, fun S' hw hk => q_sliceArr ho ht rfl hj hl hh hx (hk.obj hw hobj rfl) hr h1 h2 h3 h4, h5⟩
        · exact h.elim
      · exact h.elim
    · rename_i nl nh sz b z hl hh hm ht
      split at h
      · rename_i v hx
        obtain ⟨h0, h1, h2, h3, h5⟩ := h
        subst h0
        exact ⟨_, .of fun S' => q_sliceStr ho ht rfl hl hh hx h1 h2 h3, h5⟩
      · exact h.elim
    · exact h.elim
  · rename_i x k ho
    split at h
    · rename_i ts hx
      split at h
      · rename_i r hr; exact ⟨_, .of fun S' => q_extract ho hx hr, h⟩
      · exact h.elim
    · exact h.elim
  · rename_i x ho
    split at h
    · rename_i id off hx; exact ⟨_, .of fun S' => q_nilCheck ho (.inl ⟨id, off, hx⟩), by rw [hx]; exact h⟩
    · rename_i s d hx; exact ⟨_, .of fun S' => q_nilCheck ho (.inr ⟨s, d, hx⟩), by rw [hx]; exact h⟩
    · exact h.elim
  · rename_i f first cap ho; exact ⟨_, .of fun S' => q_makeFunc ho, h⟩
  · rename_i t ps ho
    split at h
    · rename_i i hi
      split at h
      · rename_i fs hd
        split at h
        · rename_i pl hp
          obtain ⟨h1, h2⟩ := h
          split at h2
          · rename_i cs hc; exact ⟨_, .of fun S' => q_build ho hi hd hp h1 hc, h2⟩
          · exact h2.elim
        · exact h.elim
      · exact h.elim
    · exact h.elim
  · rename_i args ty ho
    split at h
    · rename_i x t ha hty
      have hargs : args = #[x] := by rw [← Array.toArray_toList (xs := args), ha]
      have htys : ty = #[t] := by rw [← Array.toArray_toList (xs := ty), hty]
      subst hargs htys
      split at h
      · rename_i i hi
        split at h
        · rename_i e g s xs hd hx; exact ⟨_, .of fun S' => q_len ho rfl hi (by rw [hd, hx]), h⟩
        · rename_i e id off s len hd hx; exact ⟨_, .of fun S' => q_len ho rfl hi (by rw [hd, hx]), h⟩
        · rename_i v hd hx; exact ⟨_, .of fun S' => q_len ho rfl hi (by rw [hd, hx]), h⟩
        · rename_i k e hd; exact ⟨_, .of fun S' => q_len ho rfl hi (by rw [hd]), h⟩
        · rename_i k e hd hx; exact ⟨_, .of fun S' => q_len ho rfl hi (by rw [hd, hx]), h⟩
        · rename_i k e id hd hx
          split at h
          · rename_i es hobj; exact ⟨_, fun S' hw hk => q_len ho rfl hi (by rw [hd, hx]; exact ⟨es, hk.obj hw hobj rfl, rfl⟩), h⟩
          · exact h.elim
        · exact h.elim
      · exact h.elim
    · exact h.elim
  · exact h.elim
end Go.Proofs.YteafcknljhglkaaDoor.TL
