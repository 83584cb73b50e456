/-
  Regions whose order is drawn: one order, operation by operation, serves for all.
-/
import Derived.Test.YteafcknljhglkaaDoorTlO
import Derived.Orders
set_option linter.unusedVariables false
set_option linter.unusedSimpArgs false
namespace Go.Proofs.YteafcknljhglkaaDoor.TL
open Go.RowKit

/-- All that an operation waits for has been carried out. -/
def Up (o : Oper) (listed : Array Bool) : Prop := ∀ e ∈ o.after, Region.binds .any e = true → listed.getD e.on false = true
def DC (ops : Array Oper) (listed : Array Bool) : Prop := ∀ i o, ops[i]? = some o → listed.getD i false = true → Up o listed

def maskOf (acc : Array Nat) (o : Oper) : Nat := o.after.foldl (fun s e => if Region.binds .any e then s ||| 2 ^ e.on ||| acc.getD e.on 0 else s) 0

theorem mask_list (acc : Array Nat) (k : Nat) : ∀ (l : List Edge) (s : Nat), (l.foldl (fun s e => if Region.binds .any e then s ||| 2 ^ e.on ||| acc.getD e.on 0 else s) s).testBit k = true →
    s.testBit k = true ∨ ∃ e ∈ l, Region.binds .any e = true ∧ (e.on = k ∨ (acc.getD e.on 0).testBit k = true)
  | [], s, h => .inl h
  | e :: l, s, h => by
    simp only [List.foldl_cons] at h
    rcases mask_list acc k l _ h with h1 | ⟨e', he, hb, h1⟩
    · split at h1
      · rename_i hb
        rw [Nat.testBit_or, Nat.testBit_or, Bool.or_eq_true, Bool.or_eq_true] at h1
        rcases h1 with (h1 | h1) | h1
        · exact .inl h1
        · rw [Nat.testBit_two_pow] at h1
          exact .inr ⟨e, by simp, hb, .inl (by simpa using h1)⟩
        · exact .inr ⟨e, by simp, hb, .inr h1⟩
      · exact .inl h1
    · exact .inr ⟨e', List.mem_cons_of_mem _ he, hb, h1⟩

/-- What stands ahead of an operation has been carried out when it comes up. -/
theorem before_forced (ops : Array Oper) (listed : Array Bool) (hdc : DC ops listed) : ∀ i k o, ops[i]? = some o → Up o listed → ((Region.before ops).getD i 0).testBit k = true → listed.getD k false = true := by
  have key : ∀ (l : List Oper) (acc : Array Nat) (m : Nat), acc.size = m → (∀ j, j < l.length → l[j]? = ops[m + j]?) →
      (∀ i k o, i < m → ops[i]? = some o → Up o listed → (acc.getD i 0).testBit k = true → listed.getD k false = true) →
      ∀ i k o, i < m + l.length → ops[i]? = some o → Up o listed → ((l.foldl (fun acc o => acc.push (maskOf acc o)) acc).getD i 0).testBit k = true → listed.getD k false = true := by
    intro l
    induction l with
    | nil => intro acc m hm _ h i k o hi; exact h i k o (by simpa using hi)
    | cons x l ih =>
      intro acc m hm hops h i k o hi
      simp only [List.foldl_cons]
      refine ih (acc.push (maskOf acc x)) (m + 1) (by simp [hm]) (fun j hj => ?_) ?_ i k o (by simpa [Nat.add_assoc, Nat.add_comm 1] using hi)
      · have := hops (j + 1) (by simpa using hj)
        rw [show m + 1 + j = m + (j + 1) by omega, ← this]; simp
      · intro i k o hi ho hu hb
        by_cases him : i = m
        · subst him
          have hx : some x = ops[i]? := by simpa using hops 0 (by simp)
          rw [ho] at hx; injection hx with hx; subst hx
          rw [Array.getD_eq_getD_getElem?, Array.getElem?_push] at hb
          rw [if_pos hm.symm] at hb
          simp only [Option.getD_some] at hb
          unfold maskOf at hb
          rw [← Array.foldl_toList] at hb
          rcases mask_list acc k _ 0 hb with h1 | ⟨e, he, hbd, h1⟩
          · simp at h1
          · have hel := hu e (by simpa using he) hbd
            rcases h1 with rfl | h1
            · exact hel
            · have hlt : e.on < i := by
                rcases Nat.lt_or_ge e.on i with h | h
                · exact h
                · rw [Array.getD_eq_getD_getElem?, Array.getElem?_eq_none (by omega)] at h1; simp at h1
              have hex : ∃ oe, ops[e.on]? = some oe := by
                have hil : i < ops.size := (Array.getElem?_eq_some_iff.1 ho).1
                exact ⟨ops[e.on]'(by omega), Array.getElem?_eq_getElem (by omega)⟩
              obtain ⟨oe, hoe⟩ := hex
              exact h e.on k oe hlt hoe (hdc e.on oe hoe hel) h1
        · have hi' : i < m := by omega
          rw [Array.getD_eq_getD_getElem?, Array.getElem?_push, if_neg (by omega)] at hb
          exact h i k o hi' ho hu (by rw [Array.getD_eq_getD_getElem?]; exact hb)
  intro i k o ho hu hb
  have hil : i < ops.size := (Array.getElem?_eq_some_iff.1 ho).1
  have hbe : Region.before ops = ops.toList.foldl (fun acc o => acc.push (maskOf acc o)) #[] := by
    unfold Region.before
    rw [← Array.foldl_toList]
    rfl
  rw [hbe] at hb
  exact key ops.toList #[] 0 rfl (fun j hj => by simp) (fun i _ _ hi => by omega) i k o (by simpa using hil) ho hu hb

abbrev dep (ops : Array Oper) (i k : Nat) : Bool := ((Region.before ops).getD i 0).testBit k

/-- An entry of the order: which operation; 0: a quiet one, 1: another one, 2: another one behind which nothing that stands ahead can still come. -/
abbrev Ent2 := Nat × Nat

def edgeIn (o : Oper) (l : List Nat) : Bool := o.after.any fun e => Region.binds .any e && l.contains e.on
/-- The order is one that serves. -/
def chkL (ops : Array Oper) : List Nat → List Ent2 → Bool
  | _, [] => true
  | ahead, (i, k) :: r =>
    match ops[i]? with
    | none => false
    | some o =>
      (o.after.all fun e => !Region.binds .any e || ahead.contains e.on) &&
      (r.all fun q => !dep ops i q.1) &&
      (k == 0 || (r.all fun q => match ops[q.1]? with | some oq => edgeIn oq (i :: r.map (·.1)) | none => false)) &&
      (k != 2 || ahead.all fun q => dep ops i q) &&
      chkL ops (i :: ahead) r
def chkP (ops : Array Oper) (l : List Nat) : Bool :=
  l.all fun i => l.all fun k => i == k || (match ops[i]?, ops[k]? with
    | some oi, some ok => (match oi.dst with
      | some d => (!(ok.looksAt ops).contains d || dep ops i k || dep ops k i) && ok.dst != some d
      | none => true)
    | _, _ => false)
def noDup : List Nat → Bool
  | [] => true
  | i :: l => !l.contains i && noDup l
def chkD (ops : Array Oper) (l : List Ent2) : Bool :=
  chkL ops [] l && chkP ops (l.map (·.1)) && noDup (l.map (·.1)) && (List.range ops.size).all (fun i => (l.map (·.1)).contains i) && l.all (fun p => decide (p.1 < ops.size) && decide (p.2 ≤ 2))

theorem noDup_iff : ∀ {l : List Nat}, noDup l = true → l.Nodup
  | [], _ => List.nodup_nil
  | i :: l, h => by
    simp only [noDup, Bool.and_eq_true] at h
    exact List.nodup_cons.2 ⟨by simpa using h.1, noDup_iff h.2⟩

def evD (E : Env) (N : Nat) (ops : Array Oper) : List Ent2 → ((Nat → TV) → TS → Prop) → (Nat → TV) → TS → Prop
  | [], K, T, S => K T S
  | (i, k) :: l, K, T, S =>
    match ops[i]? with
    | none => False
    | some o =>
      match o.guard with
      | none =>
        if k = 0 then quietT E o T S fun v => evD E N ops l K (putT T o.dst v) S
        else opT E o T S fun t S' => (k = 1 → Keep S S') ∧ evD E N ops l K (putT T o.dst t) S'
      | some (j, want) =>
        match (ops[j]?).bind (·.dst) with
        | some d =>
          match T d with
          | .lit b => d < N ∧ (bOf b = some want → if k = 0 then quietT E o T S fun v => evD E N ops l K (putT T o.dst v) S else opT E o T S fun t S' => (k = 1 → Keep S S') ∧ evD E N ops l K (putT T o.dst t) S') ∧
            (bOf b ≠ some want → evD E N ops l K (putT T o.dst (.lit undef)) S)
          | _ => False
        | none => False

/-- The temporaries behind some operations, each with what it yielded. -/
def ov (ops : Array Oper) (T0 : Nat → TV) (d : List (Nat × TV)) : Nat → TV := fun t =>
  match d.find? fun p => ((ops[p.1]?).bind (·.dst)) == some t with
  | some p => p.2
  | none => T0 t

theorem ov_nil (ops : Array Oper) (T0 : Nat → TV) : ov ops T0 [] = T0 := rfl
theorem ov_snoc {ops : Array Oper} {T0 : Nat → TV} {d : List (Nat × TV)} {i : Nat} {o : Oper} {v : TV} (ho : ops[i]? = some o) (hu : ∀ p ∈ d, ∀ t, o.dst = some t → (ops[p.1]?).bind (·.dst) ≠ some t) :
    ov ops T0 (d ++ [(i, v)]) = putT (ov ops T0 d) o.dst v := by
  funext t
  unfold ov
  rw [List.find?_append]
  cases hd : o.dst with
  | none =>
    simp only [putT]
    have : [(i, v)].find? (fun p => ((ops[p.1]?).bind (·.dst)) == some t) = none := by simp [ho, hd]
    rw [this, Option.or_none]
  | some x =>
    simp only [putT, upd]
    by_cases htx : t = x
    · subst htx
      rw [if_pos rfl]
      have h1 : d.find? (fun p => ((ops[p.1]?).bind (·.dst)) == some t) = none := by
        rw [List.find?_eq_none]
        intro p hp
        simp only [beq_iff_eq]
        exact hu p hp t hd
      have h2 : [(i, v)].find? (fun p => ((ops[p.1]?).bind (·.dst)) == some t) = some (i, v) := by simp [ho, hd]
      rw [h1, h2]
      rfl
    · rw [if_neg htx]
      have h2 : [(i, v)].find? (fun p => ((ops[p.1]?).bind (·.dst)) == some t) = none := by
        simp [ho, hd]
        exact fun h => htx h.symm
      rw [h2, Option.or_none]

/-- Two lists that hold the same entries for a temporary. -/
theorem ov_congr {ops : Array Oper} {T0 : Nat → TV} {d e : List (Nat × TV)} {t : Nat} (h1 : ∀ p ∈ d, (ops[p.1]?).bind (·.dst) = some t → p ∈ e) (h2 : ∀ p ∈ e, (ops[p.1]?).bind (·.dst) = some t → p ∈ d)
    (hu : ∀ p ∈ e, ∀ q ∈ e, (ops[p.1]?).bind (·.dst) = some t → (ops[q.1]?).bind (·.dst) = some t → p = q) : ov ops T0 d t = ov ops T0 e t := by
  unfold ov
  cases hd : d.find? (fun p => ((ops[p.1]?).bind (·.dst)) == some t) with
  | none =>
    cases he : e.find? (fun p => ((ops[p.1]?).bind (·.dst)) == some t) with
    | none => rfl
    | some q =>
      have hq := List.mem_of_find?_eq_some he
      have hqt : (ops[q.1]?).bind (·.dst) = some t := by have := List.find?_some he; simpa using this
      have := List.find?_eq_none.1 hd q (h2 q hq hqt)
      simp [hqt] at this
  | some p =>
    have hp := List.mem_of_find?_eq_some hd
    have hpt : (ops[p.1]?).bind (·.dst) = some t := by have := List.find?_some hd; simpa using this
    cases he : e.find? (fun p => ((ops[p.1]?).bind (·.dst)) == some t) with
    | none =>
      have := List.find?_eq_none.1 he p (h1 p hp hpt)
      simp [hpt] at this
    | some q =>
      have hq := List.mem_of_find?_eq_some he
      have hqt : (ops[q.1]?).bind (·.dst) = some t := by have := List.find?_some he; simpa using this
      have := hu p (h1 p hp hpt) q hq hpt hqt
      rw [this]
end Go.Proofs.YteafcknljhglkaaDoor.TL
