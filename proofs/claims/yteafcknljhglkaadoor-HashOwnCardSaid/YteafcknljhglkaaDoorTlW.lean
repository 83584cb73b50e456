/-
  The beginning of a law: the state in which nothing is known but what the world holds; arguments and listed variables as tree values.
-/
import Derived.Test.YteafcknljhglkaaDoorTlV
import Derived.ProofKit
import Derived.OpenShut
import Derived.ShutString
import Derived.ChangeOld
import Derived.Below
import Derived.SizedLaws
import Derived.LaidMore
import Derived.Stop.Joined
set_option linter.unusedVariables false
set_option linter.unusedSimpArgs false
namespace Go.Proofs.YteafcknljhglkaaDoor.TL
open Go.RowKit Go.ChangeShapes Go.WideShapes Go.ChangeAt

def cx0 (W : World) : Cx := { A := fun b o => (W.cell? ⟨b, o, none⟩).isSome = true, γ := fun _ => none, n := 0 }
def S0 : TS := ⟨fun _ => .gone, 0⟩
theorem rel0 (W : World) : Rel W (cx0 W) S0 W :=
  ⟨Below.refl _ _, fun id x h => (by cases h), fun id h => absurd h (Nat.not_lt_zero _), fun i j b e e' h => absurd h (Nat.not_lt_zero _), fun b o h => (by
    cases hc : W.cell? ⟨b, o, none⟩ with
    | none => unfold cx0 at h; simp only [hc] at h; cases h
    | some v => exact ⟨v, rfl⟩), fun id h => rfl, rfl⟩
theorem cx0_A {W : World} {b o : Nat} {v : Value} (h : W.cell? ⟨b, o, none⟩ = some v) : (cx0 W).A b o := by
  show (W.cell? ⟨b, o, none⟩).isSome = true
  rw [h]; rfl

theorem spot_none {W : World} {a : Addr} {v : Value} (h : W.cell? a = some v) : a = ⟨a.block, a.off, none⟩ := by
  unfold World.cell? at h
  split at h
  · split at h
    · cases h
    · rename_i hs
      cases a with
      | mk b o s =>
        cases s with
        | none => rfl
        | some s => exact absurd rfl hs
  · cases h

/-- Scalars that stand in a row. -/
theorem sl_lits {W : World} {a : Option Addr} {len cap : Nat} (ls : List Value) (hl : ls.length = len) (hc : len ≤ cap) (hm : len ≤ LIM) (h1 : ∀ v ∈ ls, v.oneCell' = true)
    (hcell : ∀ i v, ls[i]? = some v → ∃ x, a = some x ∧ W.cell? (x.add i) = some v) : RdT (cx0 W) W (.sl .none 1 (ls.map D.lit)) (.slice a len cap) := by
  refine .sl _ _ _ _ ?_ trivial
  cases ls with
  | nil =>
    have : len = 0 := by simpa using hl.symm
    subst this
    exact .nil _ _ _
  | cons v0 ls =>
    obtain ⟨x, rfl, hx⟩ := hcell 0 v0 rfl
    have hx0 : x.add 0 = x := by simp [Addr.add]
    rw [hx0] at hx
    have hsp := spot_none hx
    rw [hsp]
    refine .sl _ _ _ _ _ _ (by simpa using hl) hc hm fun i t ht => ?_
    rw [List.getElem?_map] at ht
    obtain ⟨v, hv, rfl⟩ := Option.map_eq_some_iff.1 ht
    obtain ⟨y, hy, hcl⟩ := hcell i v hv
    injection hy with hy; subst hy
    rw [hsp, addr_add] at hcl
    rw [Nat.mul_one]
    exact .one _ _ _ v rfl (cx0_A hcl) hcl (h1 v (List.mem_of_getElem? hv)) (.lit v)

theorem wf_u8 {n : Int} (h : (Lit.int .u8 n).wf = true) : Value.int .u8 n = w8 (BitVec.ofInt 8 n) := by
  have h0 : 0 ≤ n ∧ n ≤ 255 := by simpa [Lit.wf, IntKind.min, IntKind.max, IntKind.bits, IntKind.signed] using h
  congr 1
  rw [BitVec.toNat_ofInt]
  omega
theorem wf_u16 {n : Int} (h : (Lit.int .u16 n).wf = true) : Value.int .u16 n = w16 (BitVec.ofInt 16 n) := by
  have h0 : 0 ≤ n ∧ n ≤ 65535 := by simpa [Lit.wf, IntKind.min, IntKind.max, IntKind.bits, IntKind.signed] using h
  congr 1
  rw [BitVec.toNat_ofInt]
  omega
theorem wf_u64 {n : Int} (h : (Lit.int .u64 n).wf = true) : Value.int .u64 n = w64 (BitVec.ofInt 64 n) := by
  have h0 : 0 ≤ n ∧ n ≤ 18446744073709551615 := by simpa [Lit.wf, IntKind.min, IntKind.max, IntKind.bits, IntKind.signed] using h
  congr 1
  rw [BitVec.toNat_ofInt]
  omega

theorem RdCells.nil {c : Cx} {w : World} : RdCells c w [] #[] := ⟨rfl, fun j t v h => by simp at h⟩
theorem RdCells.cons {c : Cx} {w : World} {t : TV} {v : Value} {ts : List TV} {vs : List Value} (h : RdT c w t v) (k : RdCells c w ts vs.toArray) : RdCells c w (t :: ts) (v :: vs).toArray := by
  refine ⟨by have := k.size; simpa using this, fun j t' v' h1 h2 => ?_⟩
  cases j with
  | zero => simp at h1 h2; subst h1; subst h2; exact h
  | succ j => exact k.rd j t' v' (by simpa using h1) (by simpa using h2)
theorem rd_int {c : Cx} {w : World} {u v : Value} (h : v = u) : RdT c w (.lit u) v := by subst h; exact .lit _

section
variable {H : Type} {enc : TypeId × Value → H} {P : Program} {W : World} {base : Nat} {spare : Nat → Bool} {held : Bool}
/-- An argument of bytes. -/
theorem arg_bytes {t e : TypeId} {a : Option Addr} {len cap : Nat} {d : DataW H} {p : List MemPlace} {ts : List TypeId} {ds : List (DataW H)} {j : Nat}
    (ht : P.underlying t = some (.slice e)) (he : P.underlying e = some (.int .u8)) (hc : P.cellsOf e = 1) (hby : P.bytesOf e = 1)
    (h : ∃ fuel, DataW.trod enc P W base spare held fuel t (Value.slice a len cap).cells.toList = some (d, p))
    (hsz : (DataW.weightsEach P ts ds).all (· ≤ reachBytes) = true) (hj : ts[j]? = some t) (hd : ds[j]? = some d) :
    ∃ bs : List (BitVec 8), bs.length = len ∧ len ≤ LIM ∧ RdT (cx0 W) W (.sl .none 1 (dB bs)) (.slice a len cap) := by
  obtain ⟨fuel, hf⟩ := h
  rcases open_ints ht he hc hf with ⟨hcs, _⟩ | ⟨x, l, c, zs, hcs, _, hl, hm, hz, hx, hcell, hwz⟩
  · simp [Value.cells] at hcs
    obtain ⟨rfl, rfl, rfl⟩ := hcs
    exact ⟨[], rfl, by decide, .sl _ _ _ _ (.nil _ _ _) trivial⟩
  · simp [Value.cells] at hcs
    obtain ⟨rfl, rfl, rfl⟩ := hcs
    injection hx with hx _
    subst hx
    have hs := sized_slice hsz hj hd ht
    rw [hby, Nat.mul_one] at hs
    have hzl : len ≤ zs.length := by rw [hz]; split <;> omega
    have hlim : len ≤ LIM := by
      have h1 : (lits .u8 (zs.take len) : List (DataW H)).length = len := by simp [lits]; omega
      have h2 : reachBytes = 140737488351232 := rfl
      have h3 : LIM = 140737488355328 := rfl
      rw [h1, h2] at hs
      omega
    refine ⟨(zs.take len).map (BitVec.ofInt 8), by simp; omega, hlim, ?_⟩
    have hlist : dB ((zs.take len).map (BitVec.ofInt 8)) = ((zs.take len).map fun n => Value.int .u8 n).map D.lit := by
      simp only [dB, List.map_map]
      apply List.map_congr_left
      intro n hn
      simp only [Function.comp_apply]
      rw [wf_u8 (hwz n (List.mem_of_mem_take hn))]
    rw [hlist]
    refine sl_lits _ (by simp; omega) hl hlim (fun v hv => ?_) fun i v hv => ?_
    · obtain ⟨n, _, rfl⟩ := List.mem_map.1 hv
      rfl
    · rw [List.getElem?_map, List.getElem?_take] at hv
      split at hv
      · rename_i hi
        obtain ⟨n, hn, rfl⟩ := Option.map_eq_some_iff.1 hv
        refine ⟨x, rfl, ?_⟩
        have := hcell i (by omega)
        rw [this, List.getD_eq_getElem?_getD, hn]; rfl
      · cases hv

/-- A listed variable that is an array of whole numbers. -/
theorem laid_ints {n e t : Nat} {k : IntKind} {fuel : Nat} {ns : List Int} {p : List MemPlace} {g : Nat} {nm : String} {arr : Array Value} (ht : P.underlying t = some (.array n e)) (he : P.underlying e = some (.int k)) (hce : P.cellsOf e = 1)
    (hg : P.globalNamed nm = some g) (hv : W.var? P nm = some arr) (h : DataW.trod enc P W base spare held fuel t arr.toList = some (.agg (ns.map fun z => .lit (.int k z)), p)) :
    RdT (cx0 W) W (.eptr n (.agg (ns.map fun z => D.lit (.int k z)))) (.pointer (some ⟨g, 0, none⟩)) := by
  obtain ⟨xs, m, rfl, hx, hlen, hn, hel⟩ := DataW.trod_array ht h
  injection hx with hx _
  injection hx with hx
  have hnl : ns.length = n := by
    have := congrArg List.length hx
    simp at this; omega
  have hd := RdD.aggAt (A := (cx0 W).A) (w := W) (ns.map fun z => D.lit (.int k z)) g 0 (fun j t hj => by
    rw [List.getElem?_map] at hj
    obtain ⟨z, _, rfl⟩ := Option.map_eq_some_iff.1 hj
    rfl) (fun j t hj => by
    rw [List.getElem?_map] at hj
    obtain ⟨z, hz, rfl⟩ := Option.map_eq_some_iff.1 hj
    have hjn : j < n := by rw [← hnl]; exact (List.getElem?_eq_some_iff.1 hz).1
    have h1 := hel j hjn
    have h2 : xs[j]? = some (xs[j]'(by omega)) := List.getElem?_eq_getElem (by omega)
    rw [h2] at h1
    obtain ⟨q, q1, q2, _⟩ := DataW.trod_int he h1
    have h3 : (xs.map (·.1))[j]? = some (.lit (.int k z)) := by rw [← hx, List.getElem?_map, hz]; rfl
    rw [List.getElem?_map, h2, q2] at h3
    simp only [Option.map_some, Option.some.injEq, DataW.lit.injEq, Lit.int.injEq, true_and] at h3
    subst h3
    have hc := World.var?_cell hg hv j
    rw [hce, Nat.mul_one] at q1
    have q3 : arr.toList[j]? = some (.int k q) := by
      have := congrArg (·[0]?) q1
      simp only [List.getElem?_take, List.getElem?_drop, List.getElem?_cons_zero, Nat.add_zero] at this
      simpa using this
    rw [Array.getElem?_toList] at q3
    rw [q3] at hc
    rw [Nat.zero_add]
    exact .one _ _ _ _ rfl (cx0_A hc) hc rfl (.lit _))
  rw [List.length_map, hnl] at hd
  exact .eptr _ _ _ _ hd
end
end Go.Proofs.YteafcknljhglkaaDoor.TL
