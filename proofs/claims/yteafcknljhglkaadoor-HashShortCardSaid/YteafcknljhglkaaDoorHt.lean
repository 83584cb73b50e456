/-
  The tables out of primes are those that the program bears; rotations and words, told in two ways.
-/
import Derived.Test.YteafcknljhglkaaDoorHh
set_option linter.unusedVariables false
set_option linter.unusedSimpArgs false
namespace Go.Proofs.YteafcknljhglkaaDoor
open Go.RowKit TL

set_option maxRecDepth 20000 in
theorem tabH_eq : tabH = fW := by
  unfold tabH primeB
  decide +kernel
set_option maxRecDepth 20000 in
theorem tabK_eq : tabK = kW := by
  unfold tabK primeB
  decide +kernel
theorem sha_bare : sha [] = [0xe3#8, 0xb0#8, 0xc4#8, 0x42#8, 0x98#8, 0xfc#8, 0x1c#8, 0x14#8, 0x9a#8, 0xfb#8, 0xf4#8, 0xc8#8, 0x99#8, 0x6f#8, 0xb9#8, 0x24#8, 0x27#8, 0xae#8, 0x41#8, 0xe4#8, 0x64#8, 0x9b#8, 0x93#8, 0x4c#8, 0xa4#8, 0x95#8, 0x99#8, 0x1b#8, 0x78#8, 0x52#8, 0xb8#8, 0x55#8] := by
  decide +kernel
theorem rot_tr (x : BitVec 32) : rot x (-6) = tr x 6 ∧ rot x (-11) = tr x 11 ∧ rot x (-25) = tr x 25 ∧ rot x (-2) = tr x 2 ∧ rot x (-13) = tr x 13 ∧ rot x (-22) = tr x 22 ∧ rot x (-7) = tr x 7 ∧ rot x (-18) = tr x 18 ∧ rot x (-17) = tr x 17 ∧ rot x (-19) = tr x 19 := by
  refine ⟨?_, ?_, ?_, ?_, ?_, ?_, ?_, ?_, ?_, ?_⟩ <;> exact BitVec.or_comm _ _
theorem most_eq (a b c : BitVec 32) : (a &&& b) ||| (c &&& (a ||| b)) = (a &&& b) ^^^ (a &&& c) ^^^ (b &&& c) := by
  apply BitVec.eq_of_getLsbD_eq
  intro i hi
  simp only [BitVec.getLsbD_or, BitVec.getLsbD_and, BitVec.getLsbD_xor]
  cases a.getLsbD i <;> cases b.getLsbD i <;> cases c.getLsbD i <;> rfl
theorem nat_word1 (x y z t : Nat) (hx : x < 256) (hy : y < 256) (hz : z < 256) (ht : t < 256) :
    (((x * 16777216 % 4294967296 + y * 65536 % 4294967296) % 4294967296 + z * 256 % 4294967296) % 4294967296 + t) % 4294967296 = x * 16777216 + (y * 65536 + (z * 256 + t)) := by omega
theorem nat_word2 (x y z t : Nat) (hx : x < 256) (hy : y < 256) (hz : z < 256) (ht : t < 256) :
    x <<< 24 ||| y <<< 16 ||| z <<< 8 ||| t = x * 16777216 + (y * 65536 + (z * 256 + t)) := by
  rw [Nat.or_assoc, Nat.or_assoc]
  rw [← Nat.shiftLeft_add_eq_or_of_lt (i := 8) (by omega) z]
  rw [← Nat.shiftLeft_add_eq_or_of_lt (i := 16) (by rw [Nat.shiftLeft_eq]; omega) y]
  rw [← Nat.shiftLeft_add_eq_or_of_lt (i := 24) (by rw [Nat.shiftLeft_eq, Nat.shiftLeft_eq]; omega) x]
  simp only [Nat.shiftLeft_eq]
theorem word_eq (a b c d : BitVec 8) : BitVec.setWidth 32 a * 16777216#32 + BitVec.setWidth 32 b * 65536#32 + BitVec.setWidth 32 c * 256#32 + BitVec.setWidth 32 d =
    (BitVec.setWidth 32 a) <<< 24 ||| (BitVec.setWidth 32 b) <<< 16 ||| (BitVec.setWidth 32 c) <<< 8 ||| (BitVec.setWidth 32 d) := by
  have ha := a.isLt
  have hb := b.isLt
  have hc := c.isLt
  have hd := d.isLt
  have e (v : BitVec 8) : (BitVec.setWidth 32 v).toNat = v.toNat := by rw [BitVec.toNat_setWidth]; exact Nat.mod_eq_of_lt (by have := v.isLt; omega)
  have f (v : BitVec 8) (k : Nat) (hk : k ≤ 24) : (BitVec.setWidth 32 v <<< k).toNat = v.toNat <<< k := by
    rw [BitVec.toNat_shiftLeft, e]
    refine Nat.mod_eq_of_lt ?_
    rw [Nat.shiftLeft_eq]
    have h1 := Nat.pow_le_pow_right (n := 2) (by omega) hk
    have h2 := Nat.mul_le_mul (show v.toNat ≤ 255 by have := v.isLt; omega) h1
    have h3 : 255 * 2 ^ 24 < 2 ^ 32 := by decide
    omega
  apply BitVec.eq_of_toNat_eq
  rw [BitVec.toNat_or, BitVec.toNat_or, BitVec.toNat_or, f a 24 (by omega), f b 16 (by omega), f c 8 (by omega), e d, nat_word2 _ _ _ _ ha hb hc hd, ← nat_word1 _ _ _ _ ha hb hc hd]
  rw [BitVec.toNat_add, BitVec.toNat_add, BitVec.toNat_add, BitVec.toNat_mul, BitVec.toNat_mul, BitVec.toNat_mul, e, e, e, e]
  rfl
end Go.Proofs.YteafcknljhglkaaDoor
