/-
  One operation over tree values, computed: all; a list of them.
-/
import Derived.Test.YteafcknljhglkaaDoorTlN
set_option linter.unusedVariables false
set_option linter.unusedSimpArgs false
namespace Go.Proofs.YteafcknljhglkaaDoor.TL
open Go.RowKit

def notInt : TypeDesc → Bool
  | .int _ => false
  | _ => true
def rowTagB (S : TS) : Tag → Prop := rowTag S

def opT (E : Env) (o : Oper) (T : Nat → TV) (S : TS) (K : TV → TS → Prop) : Prop :=
  match o.op with
  | .alloc e => match tiOf E.P e with
    | some i => cellT (ofConst i.zero) = true ∧ K (.ptr S.n 0) (S.push (.cells e (cellsT (ofConst i.zero))))
    | none => False
  | .box e x => cellT (evO E T x) = true ∧ K (.ptr S.n 0) (S.push (.cells e (cellsT (evO E T x))))
  | .store t x y => match tiOf E.P t, evO E T x with
    | some i, .ptr id off => match S.objs id with
      | .cells e cs => cellT (evO E T y) = true ∧ (cellsT (evO E T y)).length = i.size ∧ off + i.size ≤ cs.length ∧ K .unk (S.set id (.cells e (spl cs off (cellsT (evO E T y)))))
      | _ => False
    | _, _ => False
  | .buildSlice t n ps => match tiOf E.P t with
    | some { desc := .slice e, .. } => match tiOf E.P e with
      | some j => 0 < j.size ∧ n * j.size ≤ 2 ^ 24 ∧ (match fillT (fun q => some (q * j.size, j.size)) (List.replicate (n * j.size) .unk) (partsT E T ps) with
        | some cs => cs.all flatT = true ∧ (isAggD j.desc = false → j.size = 1) ∧ (match chunks (isAggD j.desc) j.size n cs with
          | some ds => K (.sl .full j.size ds) S
          | none => False)
        | none => False)
      | none => False
    | _ => False
  | .makeSlice t x y => match tiOf E.P t, evO E T x, evO E T y with
    | some { desc := .slice e, .. }, .lit (.int _ l), .lit (.int _ l') => match tiOf E.P e with
      | some j => l = l' ∧ j.size = 1 ∧ j.zero.cells = #[j.zero] ∧ 0 ≤ l ∧ j.bytes * l ≤ LIM ∧ 0 < j.bytes ∧ K (.vs S.n 0 1 l.toNat) (S.push (.cells e (List.replicate l.toNat (ofConst1 j.zero))))
      | none => False
    | _, _, _ => False
  | .convert s d x => match evO E T x, tiOf E.P s, tiOf E.P d with
    | .lit (.string b), some _, some { desc := .slice e, .. } => match tiOf E.P e with
      | some ie => ie.desc = .int .u8 ∧ b.size ≤ LIM ∧ K (.sl (.own S.n) 1 (bytesD b)) (S.push .lin)
      | none => False
    | _, _, _ => quietT E o T S fun v => K v S
  | .call { callee := .builtin .append, args, argTypes } => match args.toList, argTypes.toList with
    | [x, y], [t, u] => match tiOf E.P t, tiOf E.P u, evO E T x with
      | some { desc := .slice e, .. }, some iu, .sl g s xs => match tiOf E.P e with
        | some j => match srcD S (isAggD j.desc) j.size (evO E T y) with
          | some ys => notInt iu.desc = true ∧ (s = j.size ∨ (xs = [] ∧ g = .full)) ∧ rowTag S g ∧ (xs.length + ys.length) * j.bytes ≤ LIM ∧ 0 < j.bytes ∧ j.zero.cells.size = j.size ∧ 0 < j.size ∧ K (.sl (.own S.n) j.size (xs ++ ys)) ((kill S g).push .lin)
          | none => False
        | none => False
      | some { desc := .slice e, .. }, some iu, .vs id off s len => match tiOf E.P e, S.objs id with
        | some j, .cells e1 cs => match srcD S (isAggD j.desc) j.size (evO E T y) with
          | some ys => notInt iu.desc = true ∧ e1 = e ∧ s = j.size ∧ off + len * s = cs.length ∧ (len + ys.length) * j.bytes ≤ LIM ∧ 0 < j.bytes ∧ j.zero.cells.size = j.size ∧ 0 < j.size ∧ K (.vs S.n 0 s (len + ys.length)) ((S.set id .gone).push (.cells e (cs.drop off ++ cellsD ys)))
          | none => False
        | _, _ => False
      | _, _, _ => False
    | _, _ => False
  | .call { callee := .builtin .copy, args, argTypes } => match args.toList, argTypes.toList with
    | [x, y], t :: _ => match tiOf E.P t, evO E T x, evO E T y with
      | some { desc := .slice e, .. }, .vs d off s l, .vs d' off' s' l' => match tiOf E.P e, S.objs d, S.objs d' with
        | some j, .cells e1 cs, .cells _ cs' => s = j.size ∧ s' = j.size ∧ cs'.all flatT = true ∧ off + min l' l * j.size ≤ cs.length ∧ off' + min l' l * j.size ≤ cs'.length ∧
          K (.lit (.int .i64 ((min l' l : Nat) : Int))) (S.set d (.cells e1 (spl cs off ((cs'.drop off').take (min l' l * j.size)))))
        | _, _, _ => False
      | _, _, _ => False
    | _, _ => False
  | .call { callee := .value f, args, .. } => match evO E T f with
    | .fn (.func g) first cap => TCall E g (first ++ args.toList.map (evO E T) ++ cap) S K
    | _ => False
  | _ => quietT E o T S fun v => K v S

theorem ESem.quiet {E : Env} {o : Oper} {T : Nat → TV} {S : TS} {K : TV → TS → Prop} (h : quietT E o T S fun v => K v S) : ESem E o T S K := by
  obtain ⟨v, h1, h2⟩ := quietT_ok h
  exact .of_run fun w0 c w a hk ho =>
    let ⟨u, k1, k2⟩ := h1 S hk.rel.wf (Keep.refl S) w0 c w a hk ho
    ⟨u, w, .inl k1, v, c, S, hk, Mono.refl c w, k2, h2⟩

theorem arr_of_toList {α : Type} {a : Array α} {l : List α} (h : a.toList = l) : a = l.toArray := by rw [← h]

set_option maxHeartbeats 1000000 in
theorem opT_ok {E : Env} {o : Oper} {T : Nat → TV} {S : TS} {K : TV → TS → Prop} (h : opT E o T S K) : ESem E o T S K := by
  unfold opT at h
  split at h
  · rename_i e ho
    split at h
    · rename_i i hi; exact e_alloc ho hi h.1 h.2
    · exact h.elim
  · rename_i e x ho; exact e_box ho h.1 h.2
  · rename_i t x y ho
    split at h
    · rename_i i id off hi hx
      split at h
      · rename_i e cs hobj; exact e_store ho hi hx hobj h.1 h.2.1 h.2.2.1 h.2.2.2
      · exact h.elim
    · exact h.elim
  · rename_i t n ps ho
    split at h
    · rename_i e sz b z hi
      split at h
      · rename_i j hj
        obtain ⟨h0, h1, h2⟩ := h
        split at h2
        · rename_i cs hf
          obtain ⟨h3, h4, h5⟩ := h2
          split at h5
          · rename_i ds hc
            refine e_lit ho hi rfl hj h0 h1 hf h3 h4 hc ?_ h5
            have := fillT_length _ _ hf
            simp at this
            omega
          · exact h5.elim
        · exact h2.elim
      · exact h.elim
    · exact h.elim
  · rename_i t x y ho
    split at h
    · rename_i e sz b z k l k' l' hi hx hy
      split at h
      · rename_i j hj
        obtain ⟨rfl, h1, h2, h4, h5, h6, h7⟩ := h
        exact e_makeV ho hi rfl hj h1 h2 hx hy h4 h5 h6 h7
      · exact h.elim
    · exact h.elim
  · rename_i s d x ho
    split at h
    · rename_i b i e sz bb z hx hi hd
      split at h
      · rename_i ie hie; exact e_strBytes ho hi hd rfl hie h.1 hx h.2.1 h.2.2
      · exact h.elim
    · exact .quiet h
  · rename_i args ty ho
    split at h
    · rename_i x y t u ha hty
      have h1 := arr_of_toList ha
      have h2 := arr_of_toList hty
      subst h1 h2
      split at h
      · rename_i e sz b z iu g s xs hi hu hx
        split at h
        · rename_i j hj
          split at h
          · rename_i ys hy
            obtain ⟨h1, h2, h3, h4, h5, h6, h7, h8⟩ := h
            exact e_append ho hi rfl hj hu (fun k hk => by rw [hk] at h1; cases h1) hx h2 h3 hy h4 h5 h6 h7 h8
          · exact h.elim
        · exact h.elim
      · rename_i e sz b z iu id off s len hi hu hx
        split at h
        · rename_i j e1 cs hj hobj
          split at h
          · rename_i ys hy
            obtain ⟨h1, rfl, h2, h3, h4, h5, h6, h7, h8⟩ := h
            exact e_appendV ho hi rfl hj hu (fun k hk => by rw [hk] at h1; cases h1) hx hobj h2 h3 hy h4 h5 h6 h7 h8
          · exact h.elim
        · exact h.elim
      · exact h.elim
    · exact h.elim
  · rename_i args ty ho
    split at h
    · rename_i x y t ts ha hty
      have h1 := arr_of_toList ha
      have h2 := arr_of_toList hty
      subst h1 h2
      split at h
      · rename_i e sz b z d off s l d' off' s' l' hi hx hy
        split at h
        · rename_i j e1 cs e2 cs' hj hobj hobj'
          obtain ⟨rfl, rfl, h3, h4, h5, h6⟩ := h
          exact e_copy ho rfl hi rfl hj hx hy hobj hobj' h3 h4 h5 h6
        · exact h.elim
      · exact h.elim
    · exact h.elim
  · rename_i f args ty ho
    split at h
    · rename_i g first cap hf; exact e_call ho hf h
    · exact h.elim
  · exact .quiet h

def evL (E : Env) (N : Nat) (ops : Array Oper) : List Oper → ((Nat → TV) → TS → Prop) → (Nat → TV) → TS → Prop
  | [], K, T, S => K T S
  | o :: l, K, T, S =>
    match o.guard with
    | none => opT E o T S fun t S' => evL E N ops l K (putT T o.dst t) S'
    | some (j, want) =>
      match (ops[j]?).bind (·.dst) with
      | some d =>
        match T d with
        | .lit b => d < N ∧ (bOf b = some want → opT E o T S fun t S' => evL E N ops l K (putT T o.dst t) S') ∧ (bOf b ≠ some want → evL E N ops l K (putT T o.dst (.lit undef)) S)
        | _ => False
      | none => False

theorem ESem.mono {E : Env} {o : Oper} {T : Nat → TV} {S : TS} {K K' : TV → TS → Prop} (h : ESem E o T S K) (hk : ∀ t S, K t S → K' t S) : ESem E o T S K' :=
  fun w0 c w a h1 h2 next Q hn => h w0 c w a h1 h2 next Q fun v w' hf => hn v w' (hf.mono hk)

theorem evL_ok {E : Env} {N : Nat} {ops : Array Oper} : ∀ {l : List Oper} {K : (Nat → TV) → TS → Prop} {T : Nat → TV} {S : TS}, evL E N ops l K T S → TOps E N ops l K T S
  | [], K, T, S, h => .nil h
  | o :: l, K, T, S, h => by
    unfold evL at h
    split at h
    · rename_i hg; exact .step hg ((opT_ok h).mono fun t S' h => evL_ok h)
    · rename_i j want hg
      split at h
      · rename_i d hd
        split at h
        · rename_i b hb
          exact .guarded hg hd hb h.1 (fun hw => (opT_ok (h.2.1 hw)).mono fun t S' h => evL_ok h) (fun hw => evL_ok (h.2.2 hw))
        · exact h.elim
      · exact h.elim

theorem TWp.reg {E : Env} {N : Nat} {id : Nat} {ops : Array Oper} {Q : Exit → (Nat → TV) → TS → Prop} {T : Nat → TV} {S : TS} (h : evL E N ops ops.toList (fun T S => Q .normal T S) T S) : TWp E N (.region id ops false) Q T S := .region (evL_ok h)
end Go.Proofs.YteafcknljhglkaaDoor.TL
