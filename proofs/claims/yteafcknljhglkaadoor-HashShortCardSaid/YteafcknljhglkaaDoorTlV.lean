/-
  Tests told with a continuation; rows that may be written: grown, fixed.
-/
import Derived.Test.YteafcknljhglkaaDoorTlU
set_option linter.unusedVariables false
set_option linter.unusedSimpArgs false
namespace Go.Proofs.YteafcknljhglkaaDoor.TL
open Go.RowKit

def condT : TV → (Bool → Prop) → Prop
  | .lit (.bool b), K => K b
  | _, _ => False
theorem condT_lit (b : Bool) (K : Bool → Prop) : condT (.lit (.bool b)) K = K b := rfl
attribute [go_sem] condT_lit

theorem TWp.cond_k {E : Env} {N : Nat} {Q : Exit → (Nat → TV) → TS → Prop} {T : Nat → TV} {S : TS} {o : Operand} {x y : Code}
    (h : ∀ K : Bool → Prop, (∀ b, (b = true → TWp E N x Q T S) → (b = false → TWp E N y Q T S) → K b) → condT (evO E T o) K) : TWp E N (.cond o x y) Q T S := by
  have h1 := h (fun b => (b = true → TWp E N x Q T S) ∧ (b = false → TWp E N y Q T S)) fun b h1 h2 => ⟨h1, h2⟩
  unfold condT at h1
  split at h1
  · rename_i b K hb
    exact .cond hb h1.1 h1.2
  · exact h1.elim

theorem push_lt {S : TS} {o : TObj} {i : Nat} (h : i < S.n) : (S.push o).objs i = S.objs i := by rw [TS.push_objs, if_neg (by omega)]
theorem setpush_lt {S : TS} {k i : Nat} {o o' : TObj} (h : i < S.n) (hk : i ≠ k) : ((S.set k o).push o').objs i = S.objs i := by
  rw [push_lt (by exact h), TS.set_objs, if_neg hk]

/-! ### steps that only the proof takes -/
theorem TWp.ghost {E : Env} {N : Nat} {code : Code} {Q : Exit → (Nat → TV) → TS → Prop} {T T' : Nat → TV} {S S' : TS}
    (h : ∀ w0 c w, Ok E w0 c S w → ∃ c', Rel w0 c' S' w ∧ Mono c w c' w ∧ ∀ i v, RdT c w (T i) v → RdT c' w (T' i) v) (hw : TWp E N code Q T' S') : TWp E N code Q T S := by
  intro hi w0 c w a hk ht hsz
  obtain ⟨c', h1, h2, h3⟩ := h w0 c w hk
  exact wp_mono (hw hi w0 c' w a (hk.step h1 h2) (fun j v hv => h3 j v (ht j v hv)) hsz) fun e a' w' hq => hq.trans h2

/-- What is empty and has no room may be taken for a row that may be written. -/
theorem TWp.asBuf (i e : Nat) {s : Nat} (s' : Nat) {E : Env} {N : Nat} {code : Code} {Q : Exit → (Nat → TV) → TS → Prop} {T : Nat → TV} {S : TS} (h : T i = .sl .full s [])
    (hw : TWp E N code Q (upd T i (.vs S.n 0 s' 0)) (S.push (.cells e []))) : TWp E N code Q T S := by
  refine .ghost (fun w0 c w hk => ?_) hw
  obtain ⟨c', h1, h2, h3, h4⟩ := hk.rel.virtual' (.cells e []) (.inr ⟨e, rfl⟩)
  refine ⟨c', h1, h2, fun j v hv => ?_⟩
  unfold upd
  split
  · rename_i hji
    subst hji
    rw [h] at hv
    cases hv with
    | sl _ _ _ _ k1 k2 =>
      cases k1 with
      | nil _ a cap =>
        have : cap = 0 := k2
        subst this
        exact .vsN _ _ _ _ (by omega)
      | sl _ _ b o n cap hn hc hm hh =>
        have e1 : n = 0 := by simpa using hn.symm
        have e2 : cap = n := k2
        subst e2; subst e1
        exact .vsN _ _ _ _ (by omega)
  · exact hv.step h2

theorem TWp.trunc (id n : Nat) {e : Nat} {cs : List TV} {E : Env} {N : Nat} {code : Code} {Q : Exit → (Nat → TV) → TS → Prop} {T : Nat → TV} {S : TS} (hobj : S.objs id = .cells e cs)
    (hw : TWp E N code Q T (S.set id (.cells e (cs.take n)))) : TWp E N code Q T S :=
  .ghost (fun w0 c w hk => ⟨c, hk.rel.trunc hobj n, Mono.refl c w, fun _ _ h => h⟩) hw

/-- A row that may be written is fixed: it is written no more. -/
theorem TWp.freeze (i : Nat) {id off s len : Nat} {ag : Bool} {ds : List D} {E : Env} {N : Nat} {code : Code} {Q : Exit → (Nat → TV) → TS → Prop} {T : Nat → TV} {S : TS} (h : T i = .vs id off s len)
    (hd : srcD S ag s (.vs id off s len) = some ds) (hw : TWp E N code Q (upd T i (.sl .none s ds)) (S.set id .gone)) : TWp E N code Q T S := by
  intro hi w0 c w a hk ht hsz
  have hlive : (S.objs id).live = true := by
    simp only [srcD] at hd
    split at hd
    · rename_i e cs ho; rw [ho]; rfl
    · cases hd
  rcases Nat.lt_or_ge i a.tmps.size with hia | hia
  · have hv : a.tmps[i]? = some a.tmps[i] := Array.getElem?_eq_getElem hia
    have hr := ht i _ hv
    rw [h] at hr
    obtain ⟨h1, h2, h3⟩ := vs_cells hk hr hd
    rcases h3 with ⟨ad, h3, h4⟩ | ⟨b, e, cap, news, g1, g2, g3, g4, g5, g6⟩
    · subst h4
      refine hw hi w0 c w a ⟨hk.rel.drop id, hk.glob⟩ (fun j v hj => ?_) hsz
      unfold upd
      split
      · rename_i hji
        subst hji
        rw [hv] at hj; injection hj with hj; subst hj
        rw [h3]
        exact .sl _ _ _ _ (.nil _ _ _) trivial
      · exact ht j v hj
    · let c' : Cx := { A := fun b' j => c.A b' j ∨ (b' = b ∧ ∃ q, q < news.length ∧ j = e.1 + off + q), γ := c.γ, n := c.n }
      have m : Mono c w c' w := ⟨fun _ _ h => .inl h, fun _ _ _ => rfl, fun _ _ h => h, Nat.le_refl _⟩
      have hid := hk.rel.dom _ _ g1
      have hdr := hk.rel.drop id
      have r : Rel w0 c' (S.set id .gone) w := by
        refine ⟨hdr.below, hdr.dom, fun k hk' => ?_, hdr.inj, ?_, hdr.wf, hdr.cn⟩
        · refine (hdr.obj k hk').keep m rfl (fun hl b' e' hb' => ⟨rfl, fun j hj => ?_⟩)
          rcases hj with hj | ⟨rfl, _⟩
          · exact hj
          · rw [TS.set_objs] at hl
            split at hl
            · cases hl
            · rename_i hne
              exact absurd (hk.rel.inj k id b' e' e hk' hid hl hlive hb' g1) hne
        · rintro b' j (hj | ⟨rfl, q, hq, rfl⟩)
          · exact hdr.cell b' j hj
          · exact ⟨_, g6 q _ (List.getElem?_eq_getElem hq)⟩
      refine wp_mono (hw hi w0 c' w a (hk.step r m) (fun j v hj => ?_) hsz) fun e a' w' hq => hq.trans m
      unfold upd
      split
      · rename_i hji
        subst hji
        rw [hv] at hj; injection hj with hj; subst hj
        rw [g2]
        refine .sl _ _ _ _ ((g5.step m).sl h1 g3 h2 fun q x hx => ⟨g6 q x hx, .inr ⟨rfl, q, (List.getElem?_eq_some_iff.1 hx).1, rfl⟩⟩) trivial
      · exact (ht j v hj).step m
  · refine hw hi w0 c w a ⟨hk.rel.drop id, hk.glob⟩ (fun j v hj => ?_) hsz
    unfold upd
    split
    · rename_i hji
      subst hji
      rw [Array.getElem?_eq_none hia] at hj; cases hj
    · exact ht j v hj

/-! ### rows of scalars that may be written -/
def dI (xs : List Int) : List D := xs.map fun n => .lit (.int .i64 n)
def dS (xs : List ByteArray) : List D := xs.map fun v => .lit (.string v)
section
variable {α : Type} (f : α → Value)
def dF (xs : List α) : List D := xs.map fun x => .lit (f x)
theorem cF (xs : List α) : cellsD (dF f xs) = xs.map fun x => TV.lit (f x) := by
  induction xs with
  | nil => rfl
  | cons x xs ih => rw [dF, List.map_cons, cellsD_cons]; rw [dF] at ih; rw [ih]; rfl
theorem cF_len (xs : List α) : (cellsD (dF f xs)).length = xs.length := by simp [cF]
theorem cF_get {xs : List α} {i : Nat} (d : α) (h : i < xs.length) : (cellsD (dF f xs)).getD i .unk = .lit (f (xs.getD i d)) := by
  simp [cF, List.getD_eq_getElem?_getD, List.getElem?_map, List.getElem?_eq_getElem h]
theorem cF_set (xs : List α) (i : Nat) (x : α) : (cellsD (dF f xs)).set i (.lit (f x)) = cellsD (dF f (xs.set i x)) := by
  simp only [cF, List.map_set]
theorem cF_app (xs ys : List α) : cellsD (dF f xs) ++ cellsD (dF f ys) = cellsD (dF f (xs ++ ys)) := by simp [cF]
theorem cF_drop (xs : List α) (n : Nat) : (cellsD (dF f xs)).drop n = cellsD (dF f (xs.drop n)) := by simp [cF, List.map_drop]
theorem cF_take (xs : List α) (n : Nat) : (cellsD (dF f xs)).take n = cellsD (dF f (xs.take n)) := by simp [cF, List.map_take]
theorem cF_chunks : ∀ (xs : List α) (n : Nat), n ≤ xs.length → chunks false 1 n (cellsD (dF f xs)) = some (dF f (xs.take n))
  | xs, 0, _ => by simp [chunks, dF]
  | x :: xs, n + 1, h => by
    have h1 : cellsD (dF f (x :: xs)) = TV.lit (f x) :: cellsD (dF f xs) := by simp [cF]
    rw [h1]
    simp only [chunks, List.head?_cons, Option.bind_some, toD1, List.drop_succ_cons, List.drop_zero, Bool.false_eq_true, if_false]
    rw [cF_chunks xs n (by simpa using h)]
    simp [dF]
  | [], n + 1, h => by simp at h
theorem cF_flat (hf : ∀ x, flatT (.lit (f x)) = true) (xs : List α) : (cellsD (dF f xs)).all flatT = true := by
  rw [cF, List.all_eq_true]
  intro t ht
  obtain ⟨x, _, rfl⟩ := List.mem_map.1 ht
  exact hf x
end
theorem cB_len (xs : List (BitVec 8)) : (cellsD (dB xs)).length = xs.length := cF_len (fun x : BitVec 8 => w8 x) xs
theorem cB_get {xs : List (BitVec 8)} {i : Nat} (h : i < xs.length) : (cellsD (dB xs)).getD i .unk = .lit ((fun x : BitVec 8 => w8 x) (xs.getD i 0)) := cF_get (fun x : BitVec 8 => w8 x) _ h
theorem cB_set (xs : List (BitVec 8)) (i : Nat) (x : BitVec 8) : (cellsD (dB xs)).set i (.lit ((fun x : BitVec 8 => w8 x) x)) = cellsD (dB (xs.set i x)) := cF_set (fun x : BitVec 8 => w8 x) xs i x
theorem cB_app (xs ys : List (BitVec 8)) : cellsD (dB xs) ++ cellsD (dB ys) = cellsD (dB (xs ++ ys)) := cF_app (fun x : BitVec 8 => w8 x) xs ys
theorem cB_drop (xs : List (BitVec 8)) (n : Nat) : (cellsD (dB xs)).drop n = cellsD (dB (xs.drop n)) := cF_drop (fun x : BitVec 8 => w8 x) xs n
theorem cB_take (xs : List (BitVec 8)) (n : Nat) : (cellsD (dB xs)).take n = cellsD (dB (xs.take n)) := cF_take (fun x : BitVec 8 => w8 x) xs n
theorem cB_chunks {xs : List (BitVec 8)} {n : Nat} (h : n ≤ xs.length) : chunks false 1 n (cellsD (dB xs)) = some (dB (xs.take n)) := cF_chunks (fun x : BitVec 8 => w8 x) xs n h
theorem cB_flat (xs : List (BitVec 8)) : (cellsD (dB xs)).all flatT = true := cF_flat (fun x : BitVec 8 => w8 x) (fun _ => rfl) xs
attribute [go_sem] cB_len cB_get cB_set cB_app cB_drop cB_take cB_flat
attribute [go_sem high] cB_chunks
theorem cG_len (xs : List (BitVec 32)) : (cellsD (gD xs)).length = xs.length := cF_len (fun x : BitVec 32 => w32 x) xs
theorem cG_get {xs : List (BitVec 32)} {i : Nat} (h : i < xs.length) : (cellsD (gD xs)).getD i .unk = .lit ((fun x : BitVec 32 => w32 x) (xs.getD i 0)) := cF_get (fun x : BitVec 32 => w32 x) _ h
theorem cG_set (xs : List (BitVec 32)) (i : Nat) (x : BitVec 32) : (cellsD (gD xs)).set i (.lit ((fun x : BitVec 32 => w32 x) x)) = cellsD (gD (xs.set i x)) := cF_set (fun x : BitVec 32 => w32 x) xs i x
theorem cG_app (xs ys : List (BitVec 32)) : cellsD (gD xs) ++ cellsD (gD ys) = cellsD (gD (xs ++ ys)) := cF_app (fun x : BitVec 32 => w32 x) xs ys
theorem cG_drop (xs : List (BitVec 32)) (n : Nat) : (cellsD (gD xs)).drop n = cellsD (gD (xs.drop n)) := cF_drop (fun x : BitVec 32 => w32 x) xs n
theorem cG_take (xs : List (BitVec 32)) (n : Nat) : (cellsD (gD xs)).take n = cellsD (gD (xs.take n)) := cF_take (fun x : BitVec 32 => w32 x) xs n
theorem cG_chunks {xs : List (BitVec 32)} {n : Nat} (h : n ≤ xs.length) : chunks false 1 n (cellsD (gD xs)) = some (gD (xs.take n)) := cF_chunks (fun x : BitVec 32 => w32 x) xs n h
theorem cG_flat (xs : List (BitVec 32)) : (cellsD (gD xs)).all flatT = true := cF_flat (fun x : BitVec 32 => w32 x) (fun _ => rfl) xs
attribute [go_sem] cG_len cG_get cG_set cG_app cG_drop cG_take cG_flat
attribute [go_sem high] cG_chunks
theorem cQ_len (xs : List (BitVec 64)) : (cellsD (dQ xs)).length = xs.length := cF_len (fun x : BitVec 64 => w64 x) xs
theorem cQ_get {xs : List (BitVec 64)} {i : Nat} (h : i < xs.length) : (cellsD (dQ xs)).getD i .unk = .lit ((fun x : BitVec 64 => w64 x) (xs.getD i 0)) := cF_get (fun x : BitVec 64 => w64 x) _ h
theorem cQ_set (xs : List (BitVec 64)) (i : Nat) (x : BitVec 64) : (cellsD (dQ xs)).set i (.lit ((fun x : BitVec 64 => w64 x) x)) = cellsD (dQ (xs.set i x)) := cF_set (fun x : BitVec 64 => w64 x) xs i x
theorem cQ_app (xs ys : List (BitVec 64)) : cellsD (dQ xs) ++ cellsD (dQ ys) = cellsD (dQ (xs ++ ys)) := cF_app (fun x : BitVec 64 => w64 x) xs ys
theorem cQ_drop (xs : List (BitVec 64)) (n : Nat) : (cellsD (dQ xs)).drop n = cellsD (dQ (xs.drop n)) := cF_drop (fun x : BitVec 64 => w64 x) xs n
theorem cQ_take (xs : List (BitVec 64)) (n : Nat) : (cellsD (dQ xs)).take n = cellsD (dQ (xs.take n)) := cF_take (fun x : BitVec 64 => w64 x) xs n
theorem cQ_chunks {xs : List (BitVec 64)} {n : Nat} (h : n ≤ xs.length) : chunks false 1 n (cellsD (dQ xs)) = some (dQ (xs.take n)) := cF_chunks (fun x : BitVec 64 => w64 x) xs n h
theorem cQ_flat (xs : List (BitVec 64)) : (cellsD (dQ xs)).all flatT = true := cF_flat (fun x : BitVec 64 => w64 x) (fun _ => rfl) xs
attribute [go_sem] cQ_len cQ_get cQ_set cQ_app cQ_drop cQ_take cQ_flat
attribute [go_sem high] cQ_chunks
theorem cI_len (xs : List (Int)) : (cellsD (dI xs)).length = xs.length := cF_len (fun x : Int => Value.int .i64 x) xs
theorem cI_get {xs : List (Int)} {i : Nat} (h : i < xs.length) : (cellsD (dI xs)).getD i .unk = .lit ((fun x : Int => Value.int .i64 x) (xs.getD i 0)) := cF_get (fun x : Int => Value.int .i64 x) _ h
theorem cI_set (xs : List (Int)) (i : Nat) (x : Int) : (cellsD (dI xs)).set i (.lit ((fun x : Int => Value.int .i64 x) x)) = cellsD (dI (xs.set i x)) := cF_set (fun x : Int => Value.int .i64 x) xs i x
theorem cI_app (xs ys : List (Int)) : cellsD (dI xs) ++ cellsD (dI ys) = cellsD (dI (xs ++ ys)) := cF_app (fun x : Int => Value.int .i64 x) xs ys
theorem cI_drop (xs : List (Int)) (n : Nat) : (cellsD (dI xs)).drop n = cellsD (dI (xs.drop n)) := cF_drop (fun x : Int => Value.int .i64 x) xs n
theorem cI_take (xs : List (Int)) (n : Nat) : (cellsD (dI xs)).take n = cellsD (dI (xs.take n)) := cF_take (fun x : Int => Value.int .i64 x) xs n
theorem cI_chunks {xs : List (Int)} {n : Nat} (h : n ≤ xs.length) : chunks false 1 n (cellsD (dI xs)) = some (dI (xs.take n)) := cF_chunks (fun x : Int => Value.int .i64 x) xs n h
theorem cI_flat (xs : List (Int)) : (cellsD (dI xs)).all flatT = true := cF_flat (fun x : Int => Value.int .i64 x) (fun _ => rfl) xs
attribute [go_sem] cI_len cI_get cI_set cI_app cI_drop cI_take cI_flat
attribute [go_sem high] cI_chunks
theorem cS_len (xs : List (ByteArray)) : (cellsD (dS xs)).length = xs.length := cF_len (fun x : ByteArray => Value.string x) xs
theorem cS_get {xs : List (ByteArray)} {i : Nat} (h : i < xs.length) : (cellsD (dS xs)).getD i .unk = .lit ((fun x : ByteArray => Value.string x) (xs.getD i ByteArray.empty)) := cF_get (fun x : ByteArray => Value.string x) _ h
theorem cS_set (xs : List (ByteArray)) (i : Nat) (x : ByteArray) : (cellsD (dS xs)).set i (.lit ((fun x : ByteArray => Value.string x) x)) = cellsD (dS (xs.set i x)) := cF_set (fun x : ByteArray => Value.string x) xs i x
theorem cS_app (xs ys : List (ByteArray)) : cellsD (dS xs) ++ cellsD (dS ys) = cellsD (dS (xs ++ ys)) := cF_app (fun x : ByteArray => Value.string x) xs ys
theorem cS_drop (xs : List (ByteArray)) (n : Nat) : (cellsD (dS xs)).drop n = cellsD (dS (xs.drop n)) := cF_drop (fun x : ByteArray => Value.string x) xs n
theorem cS_take (xs : List (ByteArray)) (n : Nat) : (cellsD (dS xs)).take n = cellsD (dS (xs.take n)) := cF_take (fun x : ByteArray => Value.string x) xs n
theorem cS_chunks {xs : List (ByteArray)} {n : Nat} (h : n ≤ xs.length) : chunks false 1 n (cellsD (dS xs)) = some (dS (xs.take n)) := cF_chunks (fun x : ByteArray => Value.string x) xs n h
theorem cS_flat (xs : List (ByteArray)) : (cellsD (dS xs)).all flatT = true := cF_flat (fun x : ByteArray => Value.string x) (fun _ => rfl) xs
attribute [go_sem] cS_len cS_get cS_set cS_app cS_drop cS_take cS_flat
attribute [go_sem high] cS_chunks
theorem cB_rep (n : Nat) : List.replicate n (TV.lit (.int .u8 0)) = cellsD (dB (List.replicate n 0)) := by
  show _ = cellsD (dF (fun x : BitVec 8 => w8 x) _)
  rw [cF]; simp only [List.map_replicate]; rfl
theorem cI_rep (n : Nat) : List.replicate n (TV.lit (.int .i64 0)) = cellsD (dI (List.replicate n 0)) := by
  show _ = cellsD (dF (fun x : Int => Value.int .i64 x) _)
  rw [cF]; simp only [List.map_replicate]
theorem cS_rep (n : Nat) : List.replicate n (TV.lit (.string ByteArray.empty)) = cellsD (dS (List.replicate n ByteArray.empty)) := by
  show _ = cellsD (dF (fun x : ByteArray => Value.string x) _)
  rw [cF]; simp only [List.map_replicate]
theorem oc1_int (k : IntKind) (n : Int) : ofConst1 (.int k n) = .lit (.int k n) := rfl
theorem oc1_str (b : ByteArray) : ofConst1 (.string b) = .lit (.string b) := rfl
theorem oc1_bool (b : Bool) : ofConst1 (.bool b) = .lit (.bool b) := rfl
attribute [go_sem] cB_rep cI_rep cS_rep oc1_int oc1_str oc1_bool List.drop_zero cellsD_nil List.nil_append List.append_nil
theorem dI_len (xs : List Int) : (dI xs).length = xs.length := by simp [dI]
theorem dI_app (a b : List Int) : dI (a ++ b) = dI a ++ dI b := by simp [dI]
theorem dI_get {xs : List Int} {i : Nat} (h : i < xs.length) : (dI xs).getD i default = .lit (.int .i64 (xs.getD i 0)) := by
  simp [dI, List.getD_eq_getElem?_getD, List.getElem?_map, List.getElem?_eq_getElem h]
theorem dI_drop (xs : List Int) (n : Nat) : (dI xs).drop n = dI (xs.drop n) := by simp [dI, List.map_drop]
theorem dI_take (xs : List Int) (n : Nat) : (dI xs).take n = dI (xs.take n) := by simp [dI, List.map_take]
theorem dS_len (xs : List ByteArray) : (dS xs).length = xs.length := by simp [dS]
theorem dS_app (a b : List ByteArray) : dS (a ++ b) = dS a ++ dS b := by simp [dS]
theorem dS_get {xs : List ByteArray} {i : Nat} (h : i < xs.length) : (dS xs).getD i default = .lit (.string (xs.getD i ByteArray.empty)) := by
  simp [dS, List.getD_eq_getElem?_getD, List.getElem?_map, List.getElem?_eq_getElem h]
theorem dS_drop (xs : List ByteArray) (n : Nat) : (dS xs).drop n = dS (xs.drop n) := by simp [dS, List.map_drop]
theorem dS_take (xs : List ByteArray) (n : Nat) : (dS xs).take n = dS (xs.take n) := by simp [dS, List.map_take]
attribute [go_sem] dI_len dI_get dI_drop dI_take dS_len dS_get dS_drop dS_take

/-! ### results that may be written -/
theorem Ok.freezeOwn {E : Env} {w0 : World} {c : Cx} {S : TS} {w : World} (hk : Ok E w0 c S w) {ag : Bool} {id off s len : Nat} {v : Value} {ds : List D} (hr : RdT c w (.vs id off s len) v) (hd : srcD S ag s (.vs id off s len) = some ds)
    (hend : ∀ e cs, S.objs id = .cells e cs → off + len * s = cs.length) : ∃ c', Rel w0 c' ((S.set id .gone).push .lin) w ∧ Mono c w c' w ∧ RdT c' w (.sl (.own S.n) s ds) v := by
  have hobj : ∃ e cs, S.objs id = .cells e cs := by
    simp only [srcD] at hd
    split at hd
    · rename_i e cs ho; exact ⟨e, cs, ho⟩
    · cases hd
  obtain ⟨e1, cs, hobj⟩ := hobj
  have hlive : (S.objs id).live = true := by rw [hobj]; rfl
  have hend := hend e1 cs hobj
  have hdr := hk.rel.drop id
  obtain ⟨h1, h2, h3⟩ := vs_cells hk hr hd
  rcases h3 with ⟨ad, h3, h4⟩ | ⟨b, e, cap, news, g1, g2, g3, g4, g5, g6⟩
  · subst h4
    obtain ⟨c', r1, r2, r3, r4⟩ := hdr.virtual' .lin (.inl rfl)
    refine ⟨c', r1, r2, ?_⟩
    subst h3
    exact .sl _ _ _ _ (.nil _ _ _) ⟨by rw [r4]; show S.n < S.n + 1; omega, .inl rfl⟩
  · have hob := hk.rel.obj id (hk.rel.dom _ _ g1)
    rw [hobj] at hob
    obtain ⟨q2, ⟨arr, fr, q3, qz, ql⟩, qf, q4, q5⟩ := hob.2 b e g1
    have hnl := g5.len
    let c' : Cx := { A := fun b' j => c.A b' j ∨ (b' = b ∧ ∃ q, q < news.length ∧ j = e.1 + off + q), γ := fun i => if i = S.n then some (b, (e.1 + off + len * s, e.2)) else c.γ i, n := S.n + 1 }
    have hid := hk.rel.dom _ _ g1
    have m : Mono c w c' w := ⟨fun _ _ h => .inl h, fun _ _ _ => rfl, fun i x hx => by
      have := hk.rel.dom i x hx
      show (if i = S.n then _ else _) = _
      rw [if_neg (by omega)]; exact hx, by have := hk.rel.cn; show c.n ≤ S.n + 1; omega⟩
    have hγn : c'.γ S.n = some (b, (e.1 + off + len * s, e.2)) := if_pos rfl
    have hoth : ∀ k, k < S.n → k ≠ id → (S.objs k).live = true → ∀ e', c.γ k = some (b, e') → False := fun k hk' hne hl e' hγ => hne (hk.rel.inj k id b e' e hk' hid hl hlive hγ g1)
    have r : Rel w0 c' ((S.set id .gone).push .lin) w := by
      refine ⟨hk.rel.below, fun k x hx => ?_, fun k hk' => ?_, fun i j b1 e2 e3 hi hj li lj gi gj => ?_, ?_, fun k hk' => ?_, rfl⟩
      · show k < S.n + 1
        by_cases hkn : k = S.n
        · omega
        · have : c.γ k = some x := by simpa [c', hkn] using hx
          have := hk.rel.dom k x this; omega
      · have hk2 : k < S.n + 1 := hk'
        rw [TS.push_objs, TS.set_n]
        by_cases hkn : k = S.n
        · rw [if_pos hkn]
          subst hkn
          intro b2 z2 hz2
          rw [hγn] at hz2
          injection hz2 with hz2; injection hz2 with p1 p2; subst p1 p2
          refine ⟨q2, ⟨arr, _, fr, q3, by omega⟩, fun j _ _ => qf j, fun j hj ha => ?_⟩
          rcases ha with ha | ⟨_, q, hq, rfl⟩
          · exact q5 j ha
          · simp only at hj
            rw [hnl, h1] at hq
            omega
        · rw [if_neg hkn, TS.set_objs]
          by_cases hki : k = id
          · rw [if_pos hki]; trivial
          · rw [if_neg hki]
            refine (hk.rel.obj k (by omega)).keep m (by simp [c', hkn]) (fun hl b' e' hb' => ⟨rfl, fun j hj => ?_⟩)
            rcases hj with hj | ⟨rfl, _⟩
            · exact hj
            · exact (hoth k (by omega) hki hl e' hb').elim
      · have hi' : i < S.n + 1 := hi
        have hj' : j < S.n + 1 := hj
        rw [TS.push_objs, TS.set_n] at li lj
        have key : ∀ k, k ≠ S.n → (if k = S.n then TObj.lin else (S.set id .gone).objs k).live = true → k ≠ id ∧ (S.objs k).live = true := by
          intro k hk hl
          rw [if_neg hk, TS.set_objs] at hl
          by_cases hki : k = id
          · rw [if_pos hki] at hl; cases hl
          · rw [if_neg hki] at hl; exact ⟨hki, hl⟩
        by_cases hin : i = S.n
        · by_cases hjn : j = S.n
          · omega
          · obtain ⟨k1, k2⟩ := key j hjn lj
            have gj' : c.γ j = some (b1, e3) := by simpa [c', hjn] using gj
            have gb : b = b1 := by
              rw [hin, hγn] at gi
              injection gi with gi; injection gi
            subst gb
            exact (hoth j (by omega) k1 k2 e3 gj').elim
        · obtain ⟨k1, k2⟩ := key i hin li
          have gi' : c.γ i = some (b1, e2) := by simpa [c', hin] using gi
          by_cases hjn : j = S.n
          · have gb : b = b1 := by
              rw [hjn, hγn] at gj
              injection gj with gj; injection gj
            subst gb
            exact (hoth i (by omega) k1 k2 e2 gi').elim
          · obtain ⟨p1, p2⟩ := key j hjn lj
            have gj' : c.γ j = some (b1, e3) := by simpa [c', hjn] using gj
            exact hk.rel.inj i j b1 e2 e3 (by omega) (by omega) k2 p2 gi' gj'
      · rintro b' j (hj | ⟨rfl, q, hq, rfl⟩)
        · exact hk.rel.cell b' j hj
        · exact ⟨_, g6 q _ (List.getElem?_eq_getElem hq)⟩
      · have hk2 : S.n + 1 ≤ k := hk'
        rw [TS.push_objs, TS.set_n, if_neg (by omega), TS.set_objs]
        split
        · rfl
        · exact hk.rel.wf k (by omega)
    refine ⟨c', r, m, ?_⟩
    rw [g2]
    refine .sl _ _ _ _ ((g5.step m).sl h1 g3 h2 fun q x hx => ⟨g6 q x hx, .inr ⟨rfl, q, (List.getElem?_eq_some_iff.1 hx).1, rfl⟩⟩) ⟨Nat.lt_succ_self _, .inr ⟨b, e.1 + off, e.1 + off + len * s, e.2, rfl, hγn, rfl, g4⟩⟩

/-- A call's result that may be written, fixed. -/
theorem TCall.freeze {E : Env} {f : FuncId} {args : List TV} {S : TS} {e s len : Nat} {ag : Bool} {cs : List TV} {ds : List D}
    (h : TCall E f args S fun t S' => ∃ id, t = .vs id 0 s len ∧ S.n ≤ id ∧ S'.objs id = .cells e cs ∧ Keep S S') (hl : len * s = cs.length) (hd : ∀ S' id, S'.objs id = .cells e cs → srcD S' ag s (.vs id 0 s len) = some ds) :
    TCall E f args S fun t S' => t = .sl (.own S.n) s ds ∧ S' = S.push .lin := by
  refine TCall.row ⟨h.1, fun w0 c w vs hk hv => (h.2 w0 c w vs hk hv).mono ?_⟩
  rintro e2 w' ⟨v, he, t, c1, S1, h1, h2, h3, id, rfl, h5, h6, h7⟩
  obtain ⟨c', r1, r2, r3⟩ := h1.freezeOwn h3 (hd S1 id h6) (fun e' cs' ho => by rw [h6] at ho; injection ho with _ ho; subst ho; omega)
  refine ⟨v, he, _, c', _, h1.step r1 r2, h2.trans r2, r3, S1.n, rfl, ?_, push_self _ _, ?_⟩
  · exact h7.1
  · exact (h7.set h5 _).push' _
theorem ren_lits {n : Nat} {L : List Nat} {cs : List TV} (h : ∀ x ∈ cs, ∃ v, x = .lit v) : ∀ (j : Nat) t t', cs[j]? = some t → cs[j]? = some t' → Ren n L t t' := by
  intro j t t' h1 h2
  rw [h1] at h2; injection h2 with h2; subst h2
  obtain ⟨v, rfl⟩ := h t (List.mem_of_getElem? h1)
  exact .lit v
theorem Fgt.buf {S S1 : TS} (hw : wfS S) (h : Keep S S1) {k e : Nat} {cs : List TV} (hk : S.n ≤ k) (ho : S1.objs k = .cells e cs) (hr : ∀ x ∈ cs, ∃ v, x = .lit v) : Fgt S S1 [k] (S.push (.cells e cs)) := by
  refine ⟨by simp [TS.push], (by simp), fun k' hk' => ?_, fun id hi => .inl ⟨?_, h.2 id hi⟩, fun i k' hh => ?_, fun id hi => ?_⟩
  · simp at hk'; omega
  · simp only [TS.push]; rw [if_neg (by omega)]
  · cases i with
    | zero => simp at hh; subst hh; rw [ho, Nat.add_zero, push_self]; exact .cells _ _ _ rfl (ren_lits hr)
    | succ i => simp at hh
  · simp only [TS.push] at hi ⊢
    rw [if_neg (by omega)]
    exact hw id (by omega)
theorem TCall.buf {E : Env} {f : FuncId} {args : List TV} {S : TS} {e s len : Nat} {cs : List TV}
    (h : TCall E f args S fun t S' => ∃ id, t = .vs id 0 s len ∧ S.n ≤ id ∧ S'.objs id = .cells e cs ∧ Keep S S') (hr : ∀ x ∈ cs, ∃ v, x = .lit v) : TCall E f args S fun t S' => t = .vs S.n 0 s len ∧ S' = S.push (.cells e cs) :=
  h.forget fun t S1 hw ⟨id, h1, h2, h3, h4⟩ => ⟨[id], _, _, .buf hw h4 h2 h3 hr, by rw [h1]; exact .vs 0 id 0 s len rfl, rfl, rfl⟩
theorem lits_F {α : Type} (f : α → Value) (xs : List α) : ∀ x ∈ cellsD (dF f xs), ∃ v, x = .lit v := by
  intro x hx
  rw [cF] at hx
  obtain ⟨y, _, rfl⟩ := List.mem_map.1 hx
  exact ⟨_, rfl⟩
theorem srcD_F {α : Type} (f : α → Value) (hf : ∀ x, flatT (.lit (f x)) = true) {S : TS} {id e len : Nat} {xs : List α} (h : S.objs id = .cells e (cellsD (dF f xs))) (hl : len = xs.length) (hm : len ≤ LIM) : srcD S false 1 (.vs id 0 1 len) = some (dF f xs) := by
  rw [srcD, h]
  dsimp only
  rw [if_pos ⟨rfl, by rw [cF_len]; omega, fun _ => rfl, cF_flat f hf xs, hm⟩, List.drop_zero, cF_chunks f xs len (by omega), List.take_of_length_le (by omega)]

/-! ### arguments that read in another way -/
theorem RdT.nil_any {c : Cx} {w : World} {g : Tag} {s : Nat} (s' : Nat) {v : Value} (h : RdT c w (.sl g s []) v) (hg : g = .full ∨ g = .none) : RdT c w (.sl g s' []) v := by
  cases h with
  | sl _ _ _ _ h1 h2 =>
    refine .sl _ _ _ _ (h1.nil_any s') ?_
    rcases hg with rfl | rfl
    · cases v <;> exact h2
    · trivial
inductive ArgL : List TV → List TV → Prop
  | nil : ArgL [] []
  | same {x : TV} {a b : List TV} (h : ArgL a b) : ArgL (x :: a) (x :: b)
  | empty {s s' : Nat} {a b : List TV} (h : ArgL a b) : ArgL (.sl .full s [] :: a) (.sl .full s' [] :: b)
  | tag {g : Tag} {s : Nat} {xs : List D} {a b : List TV} (h : ArgL a b) : ArgL (.sl g s xs :: a) (.sl .none s xs :: b)
theorem ArgL.ok {c : Cx} {w : World} {a b : List TV} (h : ArgL a b) : b.length = a.length ∧ ∀ (j : Nat) t t' v, a[j]? = some t → b[j]? = some t' → RdT c w t v → RdT c w t' v := by
  induction h with
  | nil => exact ⟨rfl, fun j t t' v h => by simp at h⟩
  | same _ ih =>
    refine ⟨by simp [ih.1], fun j t t' v h1 h2 h3 => ?_⟩
    cases j with
    | zero => simp at h1 h2; subst h1; subst h2; exact h3
    | succ j => exact ih.2 j t t' v (by simpa using h1) (by simpa using h2) h3
  | empty _ ih =>
    refine ⟨by simp [ih.1], fun j t t' v h1 h2 h3 => ?_⟩
    cases j with
    | zero => simp at h1 h2; subst h1; subst h2; exact h3.nil_any _ (.inl rfl)
    | succ j => exact ih.2 j t t' v (by simpa using h1) (by simpa using h2) h3
  | tag _ ih =>
    refine ⟨by simp [ih.1], fun j t t' v h1 h2 h3 => ?_⟩
    cases j with
    | zero => simp at h1 h2; subst h1; subst h2; cases h3 with | sl _ _ _ _ q1 q2 => exact .sl _ _ _ _ q1 trivial
    | succ j => exact ih.2 j t t' v (by simpa using h1) (by simpa using h2) h3
theorem TCall.argL {E : Env} {f : FuncId} {a b : List TV} {S : TS} {K : TV → TS → Prop} (h : ArgL a b) (hc : TCall E f b S K) : TCall E f a S K :=
  ⟨hc.1, fun w0 c w vs hk hv => hc.2 w0 c w vs hk ⟨by rw [hv.size, (ArgL.ok (c := c) (w := w) h).1], fun j t v h1 h2 => by
    have hj : j < a.length := by
      have := (List.getElem?_eq_some_iff.1 h1).1
      rw [(ArgL.ok (c := c) (w := w) h).1] at this; exact this
    exact (ArgL.ok h).2 j _ t v (List.getElem?_eq_getElem hj) h1 (hv.rd j _ v (List.getElem?_eq_getElem hj) h2)⟩⟩
theorem rem16 (P : Program) (ty : TypeId) (x : BitVec 16) (b : Int) (h : 0 < b ∧ b < 65536) : tvBin P .rem ty (w16 x) (.int .u16 b) = some (w16 (x % BitVec.ofInt 16 b)) := by
  obtain ⟨n, rfl⟩ : ∃ n : Nat, b = (n : Int) := ⟨b.toNat, by omega⟩
  simp only [tvBin, tvInt]
  rw [if_neg (by simp), if_pos trivial, if_neg (by omega), BitVec.ofInt_natCast]
  show some (Value.int .u16 _) = some (Value.int .u16 ((x % BitVec.ofNat 16 n).toNat : Int))
  rw [BitVec.toNat_umod, BitVec.toNat_ofNat, Nat.mod_eq_of_lt (a := n) (by omega), Int.ofNat_tmod]
theorem rem8 (P : Program) (ty : TypeId) (x : BitVec 8) (b : Int) (h : 0 < b ∧ b < 256) : tvBin P .rem ty (w8 x) (.int .u8 b) = some (w8 (x % BitVec.ofInt 8 b)) := by
  obtain ⟨n, rfl⟩ : ∃ n : Nat, b = (n : Int) := ⟨b.toNat, by omega⟩
  simp only [tvBin, tvInt]
  rw [if_neg (by simp), if_pos trivial, if_neg (by omega), BitVec.ofInt_natCast]
  show some (Value.int .u8 _) = some (Value.int .u8 ((x % BitVec.ofNat 8 n).toNat : Int))
  rw [BitVec.toNat_umod, BitVec.toNat_ofNat, Nat.mod_eq_of_lt (a := n) (by omega), Int.ofNat_tmod]
theorem keep_push1 (S : TS) (o : TObj) : Keep S (S.push o) = True := eq_true (Keep.push S o)
attribute [go_sem] rem16 rem8 keep_push1 wrapI
end Go.Proofs.YteafcknljhglkaaDoor.TL
