/-
  Proof rules with a continuation; words of so many bits.
-/
import Derived.Test.YteafcknljhglkaaDoorTlS
set_option linter.unusedVariables false
set_option linter.unusedSimpArgs false
namespace Go.Proofs.YteafcknljhglkaaDoor.TL
open Go.RowKit

section
variable {E : Env} {N : Nat} {Q : Exit → (Nat → TV) → TS → Prop} {T : Nat → TV} {S : TS}

theorem TWp.seq_k {x y : Code} (h : ∀ K : (Nat → TV) → TS → Prop, (∀ T S, TWp E N y Q T S → K T S) → TWp E N x (thenT K Q) T S) : TWp E N (.seq x y) Q T S :=
  .seq (h _ fun _ _ h => h)
theorem TWp.sr {id : Nat} {ops : Array Oper} {y : Code} (h : ∀ K : (Nat → TV) → TS → Prop, (∀ T S, TWp E N y Q T S → K T S) → evL E N ops ops.toList K T S) : TWp E N (.seq (.region id ops false) y) Q T S :=
  .seq_k fun K hK => .reg (h K hK)
theorem TWp.sd {id : Nat} {ops : Array Oper} {y : Code} (l : List Ent2) (hm : E.P.follows .mixedOrders = true) (hc : chkD ops l = true) (h : ∀ K : (Nat → TV) → TS → Prop, (∀ T S, TWp E N y Q T S → K T S) → evD E N ops l K T S) : TWp E N (.seq (.region id ops true) y) Q T S :=
  .seq_k fun K hK => .draw hm l hc (h K hK)
theorem TWp.rk {id : Nat} {ops : Array Oper} (h : ∀ K : (Nat → TV) → TS → Prop, (∀ T S, Q .normal T S → K T S) → evL E N ops ops.toList K T S) : TWp E N (.region id ops false) Q T S :=
  .reg (h _ fun _ _ h => h)
theorem TWp.dk {id : Nat} {ops : Array Oper} (l : List Ent2) (hm : E.P.follows .mixedOrders = true) (hc : chkD ops l = true) (h : ∀ K : (Nat → TV) → TS → Prop, (∀ T S, Q .normal T S → K T S) → evD E N ops l K T S) : TWp E N (.region id ops true) Q T S :=
  .draw hm l hc (h _ fun _ _ h => h)
end

/-! ### words -/
abbrev w8 (x : BitVec 8) : Value := .int .u8 (x.toNat : Int)
abbrev w16 (x : BitVec 16) : Value := .int .u16 (x.toNat : Int)
abbrev w32 (x : BitVec 32) : Value := .int .u32 (x.toNat : Int)
abbrev w64 (x : BitVec 64) : Value := .int .u64 (x.toNat : Int)
def dB (bs : List (BitVec 8)) : List D := bs.map fun b => .lit (w8 b)

theorem wrap_un {k : IntKind} (hs : k.signed = false) (a : Int) : k.wrap a = ((BitVec.ofInt k.bits a).toNat : Int) := by
  unfold IntKind.wrap
  simp only [hs, Bool.false_and, Bool.false_eq_true, if_false, BitVec.toNat_ofInt]
  have hp : ((2 ^ k.bits : Nat) : Int) ≠ 0 := by have := Nat.two_pow_pos k.bits; omega
  rw [Int.toNat_of_nonneg (Int.emod_nonneg _ hp)]
  push_cast; rfl
theorem wrap_nat {k : IntKind} (hs : k.signed = false) {n : Nat} (h : n < 2 ^ k.bits) : k.wrap (n : Int) = (n : Int) := by
  rw [wrap_un hs, BitVec.ofInt_natCast, BitVec.toNat_ofNat, Nat.mod_eq_of_lt h]
theorem wrap_bv {k : IntKind} (hs : k.signed = false) (x : BitVec k.bits) : k.wrap (x.toNat : Int) = (x.toNat : Int) := wrap_nat hs x.isLt

theorem wrapU8 (a : Int) : IntKind.wrap .u8 a = ((BitVec.ofInt 8 a).toNat : Int) := wrap_un (k := .u8) rfl a
theorem wrapU16 (a : Int) : IntKind.wrap .u16 a = ((BitVec.ofInt 16 a).toNat : Int) := wrap_un (k := .u16) rfl a
theorem wrapU32 (a : Int) : IntKind.wrap .u32 a = ((BitVec.ofInt 32 a).toNat : Int) := wrap_un (k := .u32) rfl a
theorem wrapU64 (a : Int) : IntKind.wrap .u64 a = ((BitVec.ofInt 64 a).toNat : Int) := wrap_un (k := .u64) rfl a
theorem wrapI {n : Int} (h : -9223372036854775808 ≤ n ∧ n < 9223372036854775808) : IntKind.wrap .i64 n = n := by
  have h1 : ((2 : Int) ^ IntKind.i64.bits) = 18446744073709551616 := by decide
  have h2 : ((2 : Int) ^ (IntKind.i64.bits - 1)) = 9223372036854775808 := by decide
  have hs : IntKind.i64.signed = true := rfl
  unfold IntKind.wrap
  simp only [h1, h2, hs, Bool.true_and, decide_eq_true_eq]
  split <;> omega

section
variable (P : Program) (ty : TypeId) (a b : Int) (k : IntKind)
theorem un_add (hs : k.signed = false) : tvBin P .add ty (.int k a) (.int k b) = some (.int k ((BitVec.ofInt k.bits a + BitVec.ofInt k.bits b).toNat : Int)) := by
  simp only [tvBin, tvInt, wrap_un hs, BitVec.ofInt_add]; simp
theorem un_mul (hs : k.signed = false) : tvBin P .mul ty (.int k a) (.int k b) = some (.int k ((BitVec.ofInt k.bits a * BitVec.ofInt k.bits b).toNat : Int)) := by
  simp only [tvBin, tvInt, wrap_un hs, BitVec.ofInt_mul]; simp
theorem un_sub (hs : k.signed = false) : tvBin P .sub ty (.int k a) (.int k b) = some (.int k ((BitVec.ofInt k.bits a - BitVec.ofInt k.bits b).toNat : Int)) := by
  simp only [tvBin, tvInt, wrap_un hs]
  have : BitVec.ofInt k.bits (a - b) = BitVec.ofInt k.bits a - BitVec.ofInt k.bits b := by
    rw [Int.sub_eq_add_neg, BitVec.ofInt_add, BitVec.ofInt_neg, BitVec.sub_eq_add_neg]
  simp [this]
theorem un_and (hs : k.signed = false) : tvBin P .and ty (.int k a) (.int k b) = some (.int k ((BitVec.ofInt k.bits a &&& BitVec.ofInt k.bits b).toNat : Int)) := by
  simp only [tvBin, tvInt, bitsOf, wrap_bv hs]; simp
theorem un_or (hs : k.signed = false) : tvBin P .or ty (.int k a) (.int k b) = some (.int k ((BitVec.ofInt k.bits a ||| BitVec.ofInt k.bits b).toNat : Int)) := by
  simp only [tvBin, tvInt, bitsOf, wrap_bv hs]; simp
theorem un_xor (hs : k.signed = false) : tvBin P .xor ty (.int k a) (.int k b) = some (.int k ((BitVec.ofInt k.bits a ^^^ BitVec.ofInt k.bits b).toNat : Int)) := by
  simp only [tvBin, tvInt, bitsOf, wrap_bv hs]; simp
theorem un_shl (hs : k.signed = false) {k' : IntKind} {c : Int} (hc : 0 ≤ c) : tvBin P .shl ty (.int k a) (.int k' c) = some (.int k ((BitVec.ofInt k.bits a <<< c.toNat).toNat : Int)) := by
  simp only [tvBin, tvShift, wrap_un hs]
  rw [if_pos (Or.inl trivial), if_neg (by omega)]
  have : BitVec.ofInt k.bits (a * 2 ^ min c.toNat k.bits) = BitVec.ofInt k.bits a <<< c.toNat := by
    have h2 : ((2 : Int) ^ min c.toNat k.bits) = ((2 ^ min c.toNat k.bits : Nat) : Int) := by push_cast; rfl
    rw [BitVec.ofInt_mul, BitVec.shiftLeft_eq_mul_twoPow, h2, BitVec.ofInt_natCast]
    congr 1
    apply BitVec.eq_of_toNat_eq
    rw [BitVec.toNat_ofNat, BitVec.toNat_twoPow]
    rcases Nat.le_total c.toNat k.bits with hle | hle
    · rw [Nat.min_eq_left hle]
    · rw [Nat.min_eq_right hle, Nat.mod_self, Nat.mod_eq_zero_of_dvd (Nat.pow_dvd_pow 2 hle)]
  rw [this]
theorem un_shr (x : Nat) {k' : IntKind} {c : Int} (hc : 0 ≤ c) (hx : x < 2 ^ k.bits) : tvBin P .shr ty (.int k (x : Int)) (.int k' c) = some (.int k ((BitVec.ofNat k.bits x >>> c.toNat).toNat : Int)) := by
  simp only [tvBin, tvShift]
  rw [if_pos (Or.inr trivial), if_neg (by omega)]
  have : (x : Int).fdiv (2 ^ min c.toNat k.bits) = ((BitVec.ofNat k.bits x >>> c.toNat).toNat : Int) := by
    have h2 : ((2 : Int) ^ min c.toNat k.bits) = ((2 ^ min c.toNat k.bits : Nat) : Int) := by push_cast; rfl
    rw [BitVec.toNat_ushiftRight, Nat.shiftRight_eq_div_pow, BitVec.toNat_ofNat, Nat.mod_eq_of_lt hx, h2, Int.fdiv_eq_ediv_of_nonneg _ (Int.natCast_nonneg _)]
    rcases Nat.le_total c.toNat k.bits with hle | hle
    · rw [Nat.min_eq_left hle]; rfl
    · rw [Nat.min_eq_right hle, Nat.div_eq_of_lt (Nat.lt_of_lt_of_le hx (Nat.pow_le_pow_right (by omega) hle))]
      rw [← Int.natCast_ediv, Nat.div_eq_of_lt hx]
  rw [this]
theorem un_not (hs : k.signed = false) (x : BitVec k.bits) : tvUn .xor (.int k (x.toNat : Int)) = some (.int k ((~~~ x).toNat : Int)) := by
  simp only [tvUn, hs, bitsOf, wrap_bv hs]
  congr 2
  have : BitVec.ofInt k.bits k.max = BitVec.allOnes k.bits := by
    unfold IntKind.max
    simp only [hs]
    apply BitVec.eq_of_toNat_eq
    have hp := Nat.two_pow_pos k.bits
    have h1 : ((2 : Int) ^ k.bits - 1) = ((2 ^ k.bits - 1 : Nat) : Int) := by push_cast [Nat.one_le_two_pow]; rfl
    simp only [Bool.false_eq_true, if_false]
    rw [h1, BitVec.ofInt_natCast, BitVec.toNat_ofNat, BitVec.toNat_allOnes, Nat.mod_eq_of_lt (by omega)]
  simp [this, BitVec.allOnes_xor]
end

section
variable (P : Program) (ty : TypeId) (a b : Int)
theorem add8 : tvBin P .add ty (.int .u8 a) (.int .u8 b) = some (w8 (BitVec.ofInt 8 a + BitVec.ofInt 8 b)) := un_add P ty a b _ rfl
theorem sub8 : tvBin P .sub ty (.int .u8 a) (.int .u8 b) = some (w8 (BitVec.ofInt 8 a - BitVec.ofInt 8 b)) := un_sub P ty a b _ rfl
theorem mul8 : tvBin P .mul ty (.int .u8 a) (.int .u8 b) = some (w8 (BitVec.ofInt 8 a * BitVec.ofInt 8 b)) := un_mul P ty a b _ rfl
theorem and8 : tvBin P .and ty (.int .u8 a) (.int .u8 b) = some (w8 (BitVec.ofInt 8 a &&& BitVec.ofInt 8 b)) := un_and P ty a b _ rfl
theorem or8 : tvBin P .or ty (.int .u8 a) (.int .u8 b) = some (w8 (BitVec.ofInt 8 a ||| BitVec.ofInt 8 b)) := un_or P ty a b _ rfl
theorem xor8 : tvBin P .xor ty (.int .u8 a) (.int .u8 b) = some (w8 (BitVec.ofInt 8 a ^^^ BitVec.ofInt 8 b)) := un_xor P ty a b _ rfl
theorem shl8 {k' : IntKind} (h : 0 ≤ b) : tvBin P .shl ty (.int .u8 a) (.int k' b) = some (w8 (BitVec.ofInt 8 a <<< b.toNat)) := un_shl P ty a _ rfl h
theorem shr8 {k' : IntKind} (x : BitVec 8) (h : 0 ≤ b) : tvBin P .shr ty (w8 x) (.int k' b) = some (w8 (x >>> b.toNat)) := by
  have h1 := un_shr P ty .u8 x.toNat (k' := k') h x.isLt
  have h2 : BitVec.ofNat 8 x.toNat = x := by simp
  rw [h1]
  change some (Value.int .u8 ((BitVec.ofNat 8 x.toNat >>> b.toNat).toNat : Int)) = _
  rw [h2]
theorem not8 (x : BitVec 8) : tvUn .xor (w8 x) = some (w8 (~~~ x)) := un_not .u8 rfl x
theorem add16 : tvBin P .add ty (.int .u16 a) (.int .u16 b) = some (w16 (BitVec.ofInt 16 a + BitVec.ofInt 16 b)) := un_add P ty a b _ rfl
theorem sub16 : tvBin P .sub ty (.int .u16 a) (.int .u16 b) = some (w16 (BitVec.ofInt 16 a - BitVec.ofInt 16 b)) := un_sub P ty a b _ rfl
theorem mul16 : tvBin P .mul ty (.int .u16 a) (.int .u16 b) = some (w16 (BitVec.ofInt 16 a * BitVec.ofInt 16 b)) := un_mul P ty a b _ rfl
theorem and16 : tvBin P .and ty (.int .u16 a) (.int .u16 b) = some (w16 (BitVec.ofInt 16 a &&& BitVec.ofInt 16 b)) := un_and P ty a b _ rfl
theorem or16 : tvBin P .or ty (.int .u16 a) (.int .u16 b) = some (w16 (BitVec.ofInt 16 a ||| BitVec.ofInt 16 b)) := un_or P ty a b _ rfl
theorem xor16 : tvBin P .xor ty (.int .u16 a) (.int .u16 b) = some (w16 (BitVec.ofInt 16 a ^^^ BitVec.ofInt 16 b)) := un_xor P ty a b _ rfl
theorem shl16 {k' : IntKind} (h : 0 ≤ b) : tvBin P .shl ty (.int .u16 a) (.int k' b) = some (w16 (BitVec.ofInt 16 a <<< b.toNat)) := un_shl P ty a _ rfl h
theorem shr16 {k' : IntKind} (x : BitVec 16) (h : 0 ≤ b) : tvBin P .shr ty (w16 x) (.int k' b) = some (w16 (x >>> b.toNat)) := by
  have h1 := un_shr P ty .u16 x.toNat (k' := k') h x.isLt
  have h2 : BitVec.ofNat 16 x.toNat = x := by simp
  rw [h1]
  change some (Value.int .u16 ((BitVec.ofNat 16 x.toNat >>> b.toNat).toNat : Int)) = _
  rw [h2]
theorem not16 (x : BitVec 16) : tvUn .xor (w16 x) = some (w16 (~~~ x)) := un_not .u16 rfl x
theorem add32 : tvBin P .add ty (.int .u32 a) (.int .u32 b) = some (w32 (BitVec.ofInt 32 a + BitVec.ofInt 32 b)) := un_add P ty a b _ rfl
theorem sub32 : tvBin P .sub ty (.int .u32 a) (.int .u32 b) = some (w32 (BitVec.ofInt 32 a - BitVec.ofInt 32 b)) := un_sub P ty a b _ rfl
theorem mul32 : tvBin P .mul ty (.int .u32 a) (.int .u32 b) = some (w32 (BitVec.ofInt 32 a * BitVec.ofInt 32 b)) := un_mul P ty a b _ rfl
theorem and32 : tvBin P .and ty (.int .u32 a) (.int .u32 b) = some (w32 (BitVec.ofInt 32 a &&& BitVec.ofInt 32 b)) := un_and P ty a b _ rfl
theorem or32 : tvBin P .or ty (.int .u32 a) (.int .u32 b) = some (w32 (BitVec.ofInt 32 a ||| BitVec.ofInt 32 b)) := un_or P ty a b _ rfl
theorem xor32 : tvBin P .xor ty (.int .u32 a) (.int .u32 b) = some (w32 (BitVec.ofInt 32 a ^^^ BitVec.ofInt 32 b)) := un_xor P ty a b _ rfl
theorem shl32 {k' : IntKind} (h : 0 ≤ b) : tvBin P .shl ty (.int .u32 a) (.int k' b) = some (w32 (BitVec.ofInt 32 a <<< b.toNat)) := un_shl P ty a _ rfl h
theorem shr32 {k' : IntKind} (x : BitVec 32) (h : 0 ≤ b) : tvBin P .shr ty (w32 x) (.int k' b) = some (w32 (x >>> b.toNat)) := by
  have h1 := un_shr P ty .u32 x.toNat (k' := k') h x.isLt
  have h2 : BitVec.ofNat 32 x.toNat = x := by simp
  rw [h1]
  change some (Value.int .u32 ((BitVec.ofNat 32 x.toNat >>> b.toNat).toNat : Int)) = _
  rw [h2]
theorem not32 (x : BitVec 32) : tvUn .xor (w32 x) = some (w32 (~~~ x)) := un_not .u32 rfl x
theorem add64 : tvBin P .add ty (.int .u64 a) (.int .u64 b) = some (w64 (BitVec.ofInt 64 a + BitVec.ofInt 64 b)) := un_add P ty a b _ rfl
theorem sub64 : tvBin P .sub ty (.int .u64 a) (.int .u64 b) = some (w64 (BitVec.ofInt 64 a - BitVec.ofInt 64 b)) := un_sub P ty a b _ rfl
theorem mul64 : tvBin P .mul ty (.int .u64 a) (.int .u64 b) = some (w64 (BitVec.ofInt 64 a * BitVec.ofInt 64 b)) := un_mul P ty a b _ rfl
theorem and64 : tvBin P .and ty (.int .u64 a) (.int .u64 b) = some (w64 (BitVec.ofInt 64 a &&& BitVec.ofInt 64 b)) := un_and P ty a b _ rfl
theorem or64 : tvBin P .or ty (.int .u64 a) (.int .u64 b) = some (w64 (BitVec.ofInt 64 a ||| BitVec.ofInt 64 b)) := un_or P ty a b _ rfl
theorem xor64 : tvBin P .xor ty (.int .u64 a) (.int .u64 b) = some (w64 (BitVec.ofInt 64 a ^^^ BitVec.ofInt 64 b)) := un_xor P ty a b _ rfl
theorem shl64 {k' : IntKind} (h : 0 ≤ b) : tvBin P .shl ty (.int .u64 a) (.int k' b) = some (w64 (BitVec.ofInt 64 a <<< b.toNat)) := un_shl P ty a _ rfl h
theorem shr64 {k' : IntKind} (x : BitVec 64) (h : 0 ≤ b) : tvBin P .shr ty (w64 x) (.int k' b) = some (w64 (x >>> b.toNat)) := by
  have h1 := un_shr P ty .u64 x.toNat (k' := k') h x.isLt
  have h2 : BitVec.ofNat 64 x.toNat = x := by simp
  rw [h1]
  change some (Value.int .u64 ((BitVec.ofNat 64 x.toNat >>> b.toNat).toNat : Int)) = _
  rw [h2]
theorem not64 (x : BitVec 64) : tvUn .xor (w64 x) = some (w64 (~~~ x)) := un_not .u64 rfl x
theorem addI (h : -9223372036854775808 ≤ a + b ∧ a + b < 9223372036854775808) : tvBin P .add ty (.int .i64 a) (.int .i64 b) = some (.int .i64 (a + b)) := by simp only [tvBin, tvInt, wrapI h]; simp
theorem subI (h : -9223372036854775808 ≤ a - b ∧ a - b < 9223372036854775808) : tvBin P .sub ty (.int .i64 a) (.int .i64 b) = some (.int .i64 (a - b)) := by simp only [tvBin, tvInt, wrapI h]; simp
theorem mulI (h : -9223372036854775808 ≤ a * b ∧ a * b < 9223372036854775808) : tvBin P .mul ty (.int .i64 a) (.int .i64 b) = some (.int .i64 (a * b)) := by simp only [tvBin, tvInt, wrapI h]; simp
theorem remI (h : b ≠ 0) : tvBin P .rem ty (.int .i64 a) (.int .i64 b) = some (.int .i64 (a.tmod b)) := by simp [tvBin, tvInt, h]
theorem quoI (h : b ≠ 0) (h2 : -9223372036854775808 ≤ a.tdiv b ∧ a.tdiv b < 9223372036854775808) : tvBin P .quo ty (.int .i64 a) (.int .i64 b) = some (.int .i64 (a.tdiv b)) := by simp [tvBin, tvInt, h, wrapI h2]
theorem eqlI {k : IntKind} : tvBin P .eql ty (.int k a) (.int k b) = some (.bool (decide (a = b))) := by
  simp only [tvBin, tvInt]
  rw [if_neg (by simp)]
  first | (rw [if_pos trivial]; done) | (rw [if_pos trivial]; exact congrArg (fun b => some (Value.bool b)) (by rw [Bool.eq_iff_iff]; simp))
theorem neqI {k : IntKind} : tvBin P .neq ty (.int k a) (.int k b) = some (.bool (decide (a ≠ b))) := by
  simp only [tvBin, tvInt]
  rw [if_neg (by simp)]
  first | (rw [if_pos trivial]; done) | (rw [if_pos trivial]; exact congrArg (fun b => some (Value.bool b)) (by rw [Bool.eq_iff_iff]; simp))
theorem lssI {k : IntKind} : tvBin P .lss ty (.int k a) (.int k b) = some (.bool (decide (a < b))) := by
  simp only [tvBin, tvInt]
  rw [if_neg (by simp)]
  first | (rw [if_pos trivial]; done) | (rw [if_pos trivial]; exact congrArg (fun b => some (Value.bool b)) (by rw [Bool.eq_iff_iff]; simp))
theorem leqI {k : IntKind} : tvBin P .leq ty (.int k a) (.int k b) = some (.bool (decide (a ≤ b))) := by
  simp only [tvBin, tvInt]
  rw [if_neg (by simp)]
  first | (rw [if_pos trivial]; done) | (rw [if_pos trivial]; exact congrArg (fun b => some (Value.bool b)) (by rw [Bool.eq_iff_iff]; simp))
theorem gtrI {k : IntKind} : tvBin P .gtr ty (.int k a) (.int k b) = some (.bool (decide (b < a))) := by
  simp only [tvBin, tvInt]
  rw [if_neg (by simp)]
  first | (rw [if_pos trivial]; done) | (rw [if_pos trivial]; exact congrArg (fun b => some (Value.bool b)) (by rw [Bool.eq_iff_iff]; simp))
theorem geqI {k : IntKind} : tvBin P .geq ty (.int k a) (.int k b) = some (.bool (decide (b ≤ a))) := by
  simp only [tvBin, tvInt]
  rw [if_neg (by simp)]
  first | (rw [if_pos trivial]; done) | (rw [if_pos trivial]; exact congrArg (fun b => some (Value.bool b)) (by rw [Bool.eq_iff_iff]; simp))
end

theorem rem64 (P : Program) (ty : TypeId) (x : BitVec 64) (b : Int) (h : 0 < b ∧ b < 18446744073709551616) : tvBin P .rem ty (w64 x) (.int .u64 b) = some (w64 (x % BitVec.ofInt 64 b)) := by
  obtain ⟨n, rfl⟩ : ∃ n : Nat, b = (n : Int) := ⟨b.toNat, by omega⟩
  simp only [tvBin, tvInt]
  rw [if_neg (by simp), if_pos trivial, if_neg (by omega), BitVec.ofInt_natCast]
  show some (Value.int .u64 _) = some (Value.int .u64 ((x % BitVec.ofNat 64 n).toNat : Int))
  rw [BitVec.toNat_umod, BitVec.toNat_ofNat, Nat.mod_eq_of_lt (a := n) (by omega), Int.ofNat_tmod]
theorem un_notB (b : Bool) : tvUn .not (.bool b) = some (.bool (!b)) := rfl
theorem dB_len (bs : List (BitVec 8)) : (dB bs).length = bs.length := by simp [dB]
theorem dB_nil : dB [] = [] := rfl
theorem dB_app (a b : List (BitVec 8)) : dB (a ++ b) = dB a ++ dB b := by simp [dB]
theorem dB_get {bs : List (BitVec 8)} {i : Nat} (h : i < bs.length) : (dB bs).getD i default = .lit (w8 (bs.getD i 0)) := by
  simp [dB, List.getD_eq_getElem?_getD, List.getElem?_map, List.getElem?_eq_getElem h]
theorem dB_drop (bs : List (BitVec 8)) (n : Nat) : (dB bs).drop n = dB (bs.drop n) := by simp [dB, List.map_drop]
theorem dB_take (bs : List (BitVec 8)) (n : Nat) : (dB bs).take n = dB (bs.take n) := by simp [dB, List.map_take]
theorem Keep.set {S0 S : TS} (h : Keep S0 S) {id : Nat} (hi : S0.n ≤ id) (o : TObj) : Keep S0 (S.set id o) :=
  ⟨h.1, fun j hj => by simp only [TS.set]; rw [if_neg (by omega)]; exact h.2 j hj⟩
theorem Keep.push' {S0 S : TS} (h : Keep S0 S) (o : TObj) : Keep S0 (S.push o) := h.trans (.push S o)
theorem push_self (S : TS) (o : TObj) : (S.push o).objs S.n = o := by simp [TS.push]

/-- Where what is read later is known, the rest may be forgotten. -/
def pickT (l : List (Nat × TV)) : Nat → TV := fun i => match l.find? (fun p => p.1 == i) with | some p => p.2 | none => .unk
theorem TWp.cut {E : Env} {N : Nat} {code : Code} {Q : Exit → (Nat → TV) → TS → Prop} {T T' : Nat → TV} {S : TS} (h : ∀ i, T' i = T i ∨ T' i = .unk) (hw : TWp E N code Q T' S) : TWp E N code Q T S := by
  intro hi w0 c w a hk ht hs
  refine hw hi w0 c w a hk (fun i v hv => ?_) hs
  rcases h i with h | h
  · rw [h]; exact ht i v hv
  · rw [h]; exact .unk v
theorem pickT_ok {T : Nat → TV} : ∀ (l : List (Nat × TV)), (∀ p ∈ l, T p.1 = p.2) → ∀ i, pickT l i = T i ∨ pickT l i = .unk := by
  intro l h i
  unfold pickT
  cases hf : l.find? (fun p => p.1 == i) with
  | none => exact .inr rfl
  | some p =>
    have h1 := List.mem_of_find?_eq_some hf
    have h2 : p.1 = i := by have := List.find?_some hf; simpa using this
    left
    simp only
    rw [← h p h1, h2]

def partsL (E : Env) (T : Nat → TV) : List (Nat × Operand) → List (Nat × TV)
  | [] => []
  | (i, x) :: l => (i, evO E T x) :: partsL E T l
theorem partsT_eq (E : Env) (T : Nat → TV) (ps : Array (Nat × Operand)) : partsT E T ps = partsL E T ps.toList := by
  unfold partsT
  induction ps.toList with
  | nil => rfl
  | cons p l ih => simp [partsL, ih]
attribute [go_sem ↓] partsT_eq
attribute [go_sem] partsL
def tvSl (g : Tag) (s : Nat) (xs : List D) (n : Nat) (lo hi : Option Int) : Option TV :=
  match hi with
  | none => if 0 ≤ lo.getD 0 ∧ lo.getD 0 ≤ n then some (.sl g s (xs.drop (lo.getD 0).toNat)) else none
  | some h => if 0 ≤ lo.getD 0 ∧ lo.getD 0 ≤ h ∧ h ≤ n then some (.sl .none s ((xs.take h.toNat).drop (lo.getD 0).toNat)) else none
theorem tvSlice_sl (g : Tag) (s : Nat) (xs : List D) (lo hi : Option Int) : tvSlice s (.sl g s xs) lo hi none = tvSl g s xs xs.length lo hi := by
  unfold tvSlice tvSl
  simp only
  rw [if_pos trivial]
  cases hi <;> rfl
theorem tvSl_lo {g : Tag} {s n : Nat} {xs : List D} {l : Int} (h : 0 ≤ l ∧ l ≤ n) : tvSl g s xs n (some l) none = some (.sl g s (xs.drop l.toNat)) := if_pos h
theorem tvSl_hi {g : Tag} {s n : Nat} {xs : List D} {h' : Int} (h : 0 ≤ h' ∧ h' ≤ n) : tvSl g s xs n none (some h') = some (.sl .none s (xs.take h'.toNat)) := by
  unfold tvSl; simp only [Option.getD_none]; rw [if_pos (by omega)]; simp
theorem tvSl_lh {g : Tag} {s n : Nat} {xs : List D} {l h' : Int} (h : 0 ≤ l ∧ l ≤ h' ∧ h' ≤ n) : tvSl g s xs n (some l) (some h') = some (.sl .none s ((xs.take h'.toNat).drop l.toNat)) := if_pos h
theorem tvSl_no {g : Tag} {s n : Nat} {xs : List D} : tvSl g s xs n none none = some (.sl g s xs) := by
  unfold tvSl; simp only [Option.getD_none]; rw [if_pos (by omega)]; simp
theorem dB_one (b : BitVec 8) : [D.lit (w8 b)] = dB [b] := rfl
theorem TCall.of {E : Env} {f : FuncId} {fn : Func} {body : Code} {args : List TV} {S : TS} {R : TV → TS → Prop} (N : Nat) (rs : List ResultVar) (hf : E.P.funcs[f]? = some fn) (hb : fn.body = some body) (hname : (fn.name == "runtime.NumGoroutine") = false)
    (hN : args.length + (fn.ntmps - args.length) = N) (hrs : fn.results.toList = rs) (hin : codeInb N body = true) (hres : rs.all (resInb N) = true)
    (h : TWp E N body (fun e T S' => (e = .normal ∨ e = .ret) ∧ ∃ ts, resAll E T S' rs ts ∧ R (tupT ts) S') (argsT args) S) : TCall E f args S R := by
  subst hrs
  exact .of_body hf hb hname hN hin hres h

/-- What stands behind an operation: opened where the value is known, and not before. -/
def evK (E : Env) (N : Nat) (ops : Array Oper) (l : List Oper) (K : (Nat → TV) → TS → Prop) (T : Nat → TV) (dst : Option Nat) : TV → TS → Prop := fun t S' => evL E N ops l K (putT T dst t) S'
/-- An operation behind a guard whose value isn't known yet. -/
def brT (b : Value) (want : Bool) (E : Env) (N : Nat) (ops : Array Oper) (o : Oper) (l : List Oper) (K : (Nat → TV) → TS → Prop) (T : Nat → TV) (S : TS) : Prop :=
  (bOf b = some want → opT E o T S (evK E N ops l K T o.dst)) ∧ (bOf b ≠ some want → evL E N ops l K (putT T o.dst (.lit undef)) S)
section
variable {E : Env} {N : Nat} {ops : Array Oper} {o : Oper} {l : List Oper} {K : (Nat → TV) → TS → Prop} {T : Nat → TV} {S : TS}
theorem brT_tt : brT (.bool true) true E N ops o l K T S = opT E o T S (evK E N ops l K T o.dst) := by simp [brT, bOf]
theorem brT_ff : brT (.bool false) false E N ops o l K T S = opT E o T S (evK E N ops l K T o.dst) := by simp [brT, bOf]
theorem brT_tf : brT (.bool true) false E N ops o l K T S = evL E N ops l K (putT T o.dst (.lit undef)) S := by simp [brT, bOf]
theorem brT_ft : brT (.bool false) true E N ops o l K T S = evL E N ops l K (putT T o.dst (.lit undef)) S := by simp [brT, bOf]
theorem brT_un {w : Bool} : brT undef w E N ops o l K T S = evL E N ops l K (putT T o.dst (.lit undef)) S := by simp [brT, bOf, undef]
theorem brT_split {b want : Bool} (h1 : b = true → brT (.bool true) want E N ops o l K T S) (h2 : b = false → brT (.bool false) want E N ops o l K T S) : brT (.bool b) want E N ops o l K T S := by
  cases b
  · exact h2 rfl
  · exact h1 rfl
end
def brD (b : Value) (want : Bool) (E : Env) (N : Nat) (ops : Array Oper) (o : Oper) (k : Nat) (l : List Ent2) (K : (Nat → TV) → TS → Prop) (T : Nat → TV) (S : TS) : Prop :=
  (bOf b = some want → if k = 0 then quietT E o T S fun v => evD E N ops l K (putT T o.dst v) S else opT E o T S fun t S' => (k = 1 → Keep S S') ∧ evD E N ops l K (putT T o.dst t) S') ∧ (bOf b ≠ some want → evD E N ops l K (putT T o.dst (.lit undef)) S)
theorem evK_app (E : Env) (N : Nat) (ops : Array Oper) (l : List Oper) (K : (Nat → TV) → TS → Prop) (T : Nat → TV) (dst : Option Nat) (t : TV) (S : TS) : evK E N ops l K T dst t S = evL E N ops l K (putT T dst t) S := rfl
theorem evL_nil (E : Env) (N : Nat) (ops : Array Oper) (K : (Nat → TV) → TS → Prop) (T : Nat → TV) (S : TS) : evL E N ops [] K T S = K T S := rfl
theorem evL_cons (E : Env) (N : Nat) (ops : Array Oper) (o : Oper) (l : List Oper) (K : (Nat → TV) → TS → Prop) (T : Nat → TV) (S : TS) : evL E N ops (o :: l) K T S =
    (match o.guard with
    | none => opT E o T S (evK E N ops l K T o.dst)
    | some (j, want) =>
      match (ops[j]?).bind (·.dst) with
      | some d =>
        match T d with
        | .lit b => d < N ∧ brT b want E N ops o l K T S
        | _ => False
      | none => False) := rfl
def evKD (E : Env) (N : Nat) (ops : Array Oper) (l : List Ent2) (K : (Nat → TV) → TS → Prop) (T : Nat → TV) (dst : Option Nat) (k : Nat) (S : TS) : TV → TS → Prop := fun t S' => (k = 1 → Keep S S') ∧ evD E N ops l K (putT T dst t) S'
theorem evKD_app (E : Env) (N : Nat) (ops : Array Oper) (l : List Ent2) (K : (Nat → TV) → TS → Prop) (T : Nat → TV) (dst : Option Nat) (k : Nat) (S : TS) (t : TV) (S' : TS) : evKD E N ops l K T dst k S t S' = ((k = 1 → Keep S S') ∧ evD E N ops l K (putT T dst t) S') := rfl
def evKQ (E : Env) (N : Nat) (ops : Array Oper) (l : List Ent2) (K : (Nat → TV) → TS → Prop) (T : Nat → TV) (dst : Option Nat) (S : TS) : TV → Prop := fun t => evD E N ops l K (putT T dst t) S
theorem evKQ_app (E : Env) (N : Nat) (ops : Array Oper) (l : List Ent2) (K : (Nat → TV) → TS → Prop) (T : Nat → TV) (dst : Option Nat) (S : TS) (t : TV) : evKQ E N ops l K T dst S t = evD E N ops l K (putT T dst t) S := rfl
theorem evD_nil (E : Env) (N : Nat) (ops : Array Oper) (K : (Nat → TV) → TS → Prop) (T : Nat → TV) (S : TS) : evD E N ops [] K T S = K T S := rfl
theorem evD_cons (E : Env) (N : Nat) (ops : Array Oper) (i k : Nat) (l : List Ent2) (K : (Nat → TV) → TS → Prop) (T : Nat → TV) (S : TS) : evD E N ops ((i, k) :: l) K T S =
    (match ops[i]? with
    | none => False
    | some o =>
      match o.guard with
      | none =>
        if k = 0 then quietT E o T S (evKQ E N ops l K T o.dst S)
        else opT E o T S (evKD E N ops l K T o.dst k S)
      | some (j, want) =>
        match (ops[j]?).bind (·.dst) with
        | some d =>
          match T d with
          | .lit b => d < N ∧ brD b want E N ops o k l K T S
          | _ => False
        | none => False) := rfl
section
variable {E : Env} {N k : Nat} {ops : Array Oper} {o : Oper} {l : List Ent2} {K : (Nat → TV) → TS → Prop} {T : Nat → TV} {S : TS}
theorem brD_tt : brD (.bool true) true E N ops o k l K T S = if k = 0 then quietT E o T S (evKQ E N ops l K T o.dst S) else opT E o T S (evKD E N ops l K T o.dst k S) := by simp [brD, bOf]; rfl
theorem brD_ff : brD (.bool false) false E N ops o k l K T S = if k = 0 then quietT E o T S (evKQ E N ops l K T o.dst S) else opT E o T S (evKD E N ops l K T o.dst k S) := by simp [brD, bOf]; rfl
theorem brD_tf : brD (.bool true) false E N ops o k l K T S = evD E N ops l K (putT T o.dst (.lit undef)) S := by simp [brD, bOf]
theorem brD_ft : brD (.bool false) true E N ops o k l K T S = evD E N ops l K (putT T o.dst (.lit undef)) S := by simp [brD, bOf]
theorem brD_un {w : Bool} : brD undef w E N ops o k l K T S = evD E N ops l K (putT T o.dst (.lit undef)) S := by simp [brD, bOf, undef]
theorem brD_split {b want : Bool} (h1 : b = true → brD (.bool true) want E N ops o k l K T S) (h2 : b = false → brD (.bool false) want E N ops o k l K T S) : brD (.bool b) want E N ops o k l K T S := by
  cases b
  · exact h2 rfl
  · exact h1 rfl
end
def quK (K : TV → TS → Prop) (S : TS) : TV → Prop := fun v => K v S
theorem quK_app (K : TV → TS → Prop) (S : TS) (v : TV) : quK K S v = K v S := rfl
theorem oc_int (k : IntKind) (n : Int) : ofConst (.int k n) = .lit (.int k n) := rfl
theorem oc_bool (b : Bool) : ofConst (.bool b) = .lit (.bool b) := rfl
theorem oc_str (b : ByteArray) : ofConst (.string b) = .lit (.string b) := rfl
theorem oc_sl : ofConst (.slice none 0 0) = .sl .full 0 [] := rfl
theorem oc_ptr : ofConst (.pointer none) = .lit (.pointer none) := rfl
theorem oc_map : ofConst (.map none) = .lit (.map none) := rfl
theorem oc_nf : ofConst .nilFunc = .lit .nilFunc := rfl
theorem oc_fl (k : FloatKind) (b : Nat) : ofConst (.float k b) = .lit (.float k b) := rfl
theorem oc_nif : ofConst .nilIface = .lit .nilIface := rfl
theorem tmodN (m n : Nat) : (m : Int).tmod (no_index (OfNat.ofNat n : Int)) = ((m % OfNat.ofNat n : Nat) : Int) := by
  have : (OfNat.ofNat n : Int) = ((OfNat.ofNat n : Nat) : Int) := rfl
  rw [this, ← Int.ofNat_tmod]
theorem castMul (n m : Nat) : (no_index (OfNat.ofNat n : Int)) * (m : Int) = ((OfNat.ofNat n * m : Nat) : Int) := by
  have : (OfNat.ofNat n : Int) = ((OfNat.ofNat n : Nat) : Int) := rfl
  rw [this]; push_cast; rfl
theorem castMul2 (n m : Nat) : (m : Int) * (no_index (OfNat.ofNat n : Int)) = ((m * OfNat.ofNat n : Nat) : Int) := by
  have : (OfNat.ofNat n : Int) = ((OfNat.ofNat n : Nat) : Int) := rfl
  rw [this]; push_cast; rfl
theorem castAdd (n m : Nat) : (m : Int) + (no_index (OfNat.ofNat n : Int)) = ((m + OfNat.ofNat n : Nat) : Int) := by
  have : (OfNat.ofNat n : Int) = ((OfNat.ofNat n : Nat) : Int) := rfl
  rw [this]; push_cast; rfl
theorem castAdd2 (n m : Nat) : (no_index (OfNat.ofNat n : Int)) + (m : Int) = ((OfNat.ofNat n + m : Nat) : Int) := by
  have : (OfNat.ofNat n : Int) = ((OfNat.ofNat n : Nat) : Int) := rfl
  rw [this]; push_cast; rfl
theorem castAddN (n m : Nat) : (n : Int) + (m : Int) = ((n + m : Nat) : Int) := rfl
theorem castSub {n m : Nat} (h : OfNat.ofNat n ≤ m) : (m : Int) - (no_index (OfNat.ofNat n : Int)) = ((m - OfNat.ofNat n : Nat) : Int) := by
  have : (OfNat.ofNat n : Int) = ((OfNat.ofNat n : Nat) : Int) := rfl
  rw [this]; omega
theorem castSub2 {n m : Nat} (h : m ≤ OfNat.ofNat n) : (no_index (OfNat.ofNat n : Int)) - (m : Int) = ((OfNat.ofNat n - m : Nat) : Int) := by
  have : (OfNat.ofNat n : Int) = ((OfNat.ofNat n : Nat) : Int) := rfl
  rw [this]; omega

def dQ (ws : List (BitVec 64)) : List D := ws.map fun x => .lit (w64 x)
theorem dQ_len (ws : List (BitVec 64)) : (dQ ws).length = ws.length := by simp [dQ]
theorem dQ_get {ws : List (BitVec 64)} {i : Nat} (h : i < ws.length) : (dQ ws).getD i default = .lit (w64 (ws.getD i 0)) := by
  simp [dQ, List.getD_eq_getElem?_getD, List.getElem?_map, List.getElem?_eq_getElem h]
theorem dQ_app (a b : List (BitVec 64)) : dQ (a ++ b) = dQ a ++ dQ b := by simp [dQ]
def gD (ws : List (BitVec 32)) : List D := ws.map fun x => .lit (w32 x)
theorem gD_get {ws : List (BitVec 32)} {i : Nat} (h : i < ws.length) : (gD ws)[i]? = some (.lit (w32 (ws.getD i 0))) := by
  simp [gD, List.getD_eq_getElem?_getD, List.getElem?_map, List.getElem?_eq_getElem h]
theorem gD_getD {ws : List (BitVec 32)} {i : Nat} (h : i < ws.length) : (gD ws).getD i default = .lit (w32 (ws.getD i 0)) := by
  simp [gD, List.getD_eq_getElem?_getD, List.getElem?_map, List.getElem?_eq_getElem h]
theorem gD_len (ws : List (BitVec 32)) : (gD ws).length = ws.length := by simp [gD]
theorem gD_app (a b : List (BitVec 32)) : gD (a ++ b) = gD a ++ gD b := by simp [gD]
def dW (ws : List (BitVec 32)) : List TV := ws.map fun x => .lit (w32 x)
def splL {α : Type} : List α → Nat → List α → List α
  | cs, _, [] => cs
  | cs, off, x :: xs => splL (cs.set off x) (off + 1) xs
theorem dW_len (ws : List (BitVec 32)) : (dW ws).length = ws.length := by simp [dW]
theorem dW_get {ws : List (BitVec 32)} {i : Nat} (h : i < ws.length) : (dW ws).getD i .unk = .lit (w32 (ws.getD i 0)) := by
  simp [dW, List.getD_eq_getElem?_getD, List.getElem?_map, List.getElem?_eq_getElem h]
theorem dW_get' {ws : List (BitVec 32)} {i : Nat} (h : i < ws.length) : (dW ws)[i]? = some (.lit (w32 (ws.getD i 0))) := by
  simp [dW, List.getD_eq_getElem?_getD, List.getElem?_map, List.getElem?_eq_getElem h]
theorem dW_set (ws : List (BitVec 32)) (i : Nat) (x : BitVec 32) : (dW ws).set i (.lit (w32 x)) = dW (ws.set i x) := by simp [dW, List.map_set]
theorem dW_drop (ws : List (BitVec 32)) (n : Nat) : (dW ws).drop n = dW (ws.drop n) := by simp [dW, List.map_drop]
theorem dW_take (ws : List (BitVec 32)) (n : Nat) : (dW ws).take n = dW (ws.take n) := by simp [dW, List.map_take]
theorem dW_spl : ∀ (xs ws : List (BitVec 32)) (i : Nat), spl (dW ws) i (dW xs) = dW (splL ws i xs)
  | [], ws, i => rfl
  | x :: xs, ws, i => by
    have := dW_spl xs (ws.set i x) (i + 1)
    rw [← dW_set] at this
    exact this
theorem dW_flat (ws : List (BitVec 32)) : (dW ws).all flatT = true := by simp [dW, flatT]
theorem spl_one (cs : List TV) (i : Nat) (x : TV) : spl cs i [x] = cs.set i x := rfl
theorem take_len {α : Type} {l : List α} {n : Nat} (h : l.length = n) : l.take n = l := List.take_of_length_le (by omega)

theorem splL_len {α : Type} : ∀ (xs cs : List α) (o : Nat), (splL cs o xs).length = cs.length
  | [], _, _ => rfl
  | x :: xs, cs, o => by simp only [splL]; rw [splL_len xs]; simp
theorem splL_get {α : Type} : ∀ (xs cs : List α) (o i : Nat), o + xs.length ≤ cs.length → (splL cs o xs)[i]? = if o ≤ i ∧ i < o + xs.length then xs[i - o]? else cs[i]?
  | [], cs, o, i, _ => by simp only [splL]; rw [if_neg (by simp)]
  | x :: xs, cs, o, i, h => by
    simp only [splL]
    simp only [List.length_cons] at h ⊢
    rw [splL_get xs _ _ i (by simp; omega)]
    by_cases h1 : o + 1 ≤ i ∧ i < o + 1 + xs.length
    · rw [if_pos h1, if_pos (by omega)]
      have : i - o = (i - (o + 1)) + 1 := by omega
      rw [this, List.getElem?_cons_succ]
    · rw [if_neg h1]
      by_cases h2 : i = o
      · subst h2; rw [if_pos (by omega), Nat.sub_self, List.getElem?_cons_zero, List.getElem?_set_self (by omega)]
      · rw [if_neg (by omega), List.getElem?_set_ne (by omega)]
theorem splL_all {α : Type} {a b : List α} (h : a.length = b.length) : splL a 0 b = b := by
  apply List.ext_getElem?
  intro i
  rw [splL_get b a 0 i (by omega)]
  split
  · rfl
  · rw [List.getElem?_eq_none (by omega), List.getElem?_eq_none (by omega)]
theorem dW_spl0 {a b : List (BitVec 32)} (h : a.length = b.length) : spl (dW a) 0 (dW b) = dW b := by rw [dW_spl, splL_all h]
theorem push_set (S : TS) (o o' : TObj) : (S.push o).set S.n o' = S.push o' := by
  unfold TS.push TS.set
  simp only [TS.mk.injEq, and_true]
  funext i
  split <;> rfl
theorem push_push_set (S : TS) (a a' b : TObj) : ((S.push a).push b).set S.n a' = (S.push a').push b := by
  unfold TS.push TS.set
  simp only [TS.mk.injEq, and_true]
  funext i
  split
  · rename_i h; rw [if_neg (by omega)]
  · split
    · rfl
    · rfl
theorem resCell {E : Env} {T : Nat → TV} {S : TS} {i ty id : Nat} {e : TypeId} {cs : List TV} {inf : TI} (h1 : T i = .ptr id 0) (h2 : tiOf E.P ty = some inf) (h3 : S.objs id = .cells e cs) (h4 : isAggD inf.desc = true) (h5 : cs.length = inf.size) : resOne E T S (.cell i ty) (.agg cs) := by
  refine ⟨id, 0, e, cs, inf, h1, h2, h3, ?_⟩
  rw [if_pos h4]
  refine ⟨by omega, ?_⟩
  rw [List.drop_zero, take_len h5]
def selP (k n : Nat) (S : TS) (o o' : TObj) : TS := if k = n then S.push o' else (S.set k o').push o
theorem push_setP (S : TS) (o o' : TObj) (k : Nat) : (S.push o).set k o' = selP k S.n S o o' := by
  unfold selP
  split
  · rename_i h; subst h; exact push_set S o o'
  · rename_i h
    unfold TS.push TS.set
    simp only [TS.mk.injEq, and_true]
    funext i
    split
    · rename_i h1; rw [if_neg (by omega)]
    · rfl
theorem selP_eq {k n : Nat} {S : TS} {o o' : TObj} (h : k = n) : selP k n S o o' = S.push o' := if_pos h
theorem selP_ne {k n : Nat} {S : TS} {o o' : TObj} (h : k ≠ n) : selP k n S o o' = (S.set k o').push o := if_neg h
theorem keep_refl (S : TS) : Keep S S = True := eq_true (Keep.refl S)
theorem keep_push (S S' : TS) (o : TObj) (h : Keep S S') : Keep S (S'.push o) := h.push' o
def selO (i n : Nat) (a b : TObj) : TObj := if i = n then a else b
theorem push_sel (S : TS) (o : TObj) (i : Nat) : (S.push o).objs i = selO i S.n o (S.objs i) := rfl
theorem set_sel (S : TS) (id : Nat) (o : TObj) (i : Nat) : (S.set id o).objs i = selO i id o (S.objs i) := rfl
theorem sel_eq {i n : Nat} {a b : TObj} (h : i = n) : selO i n a b = a := if_pos h
theorem sel_ne {i n : Nat} {a b : TObj} (h : i ≠ n) : selO i n a b = b := if_neg h
attribute [go_sem low] dW_spl
attribute [go_sem] push_setP selP_eq selP_ne keep_refl Nat.min_self dW_spl0 push_sel set_sel sel_eq sel_ne take_len D.isAgg
theorem gD_of (ws : List (BitVec 32)) : (gD ws).map ofD1 = dW ws := by simp [gD, dW, ofD1]
attribute [go_sem] spl List.getD_cons_zero List.getD_cons_succ
attribute [go_sem] dQ_len dQ_get gD_get gD_getD gD_len gD_of
attribute [go_sem] castMul castMul2 castAdd castAdd2 castAddN castSub castSub2 dW_len dW_get dW_get' dW_set dW_drop dW_take dW_flat spl_one
attribute [go_sem ↓] evL_nil evL_cons evK_app evD_nil evD_cons evKD_app evKQ_app quK_app opT quietT loadT fieldT
attribute [go_sem ↓] brT_tt brT_ff brT_tf brT_ft brT_un brD_un brD_tt brD_ff brD_tf brD_ft
theorem srcD_sl (S : TS) (ag : Bool) (size : Nat) (g : Tag) (s : Nat) (ys : List D) : srcD S ag size (.sl g s ys) = if s = size then some ys else if ys.isEmpty then some [] else none := rfl
theorem srcD_str (S : TS) (ag : Bool) (size : Nat) (b : ByteArray) : srcD S ag size (.lit (.string b)) = if size = 1 ∧ b.size ≤ LIM then some (bytesD b) else none := rfl
theorem srcD_vs (S : TS) (ag : Bool) (size id off s len : Nat) : srcD S ag size (.vs id off s len) = match S.objs id with
    | .cells _ cs => if s = size ∧ off + len * s ≤ cs.length ∧ (ag = false → s = 1) ∧ (cs.all flatT = true) ∧ len ≤ LIM then chunks ag s len (cs.drop off) else none
    | _ => none := rfl
theorem chunks_0 (ag : Bool) (s : Nat) (cs : List TV) : chunks ag s 0 cs = some [] := rfl
theorem chunks_t (s n : Nat) (x : TV) (xs : List TV) : chunks true s (n + 1) (x :: xs) = match (toDs ((x :: xs).take s)).map D.agg, chunks true s n ((x :: xs).drop s) with
    | some d, some ds => some (d :: ds)
    | _, _ => none := by rw [chunks]; rfl
theorem chunks_f (n : Nat) (x : TV) (xs : List TV) : chunks false 1 (n + 1) (x :: xs) = match toD1 x, chunks false 1 n xs with
    | some d, some ds => some (d :: ds)
    | _, _ => none := by rw [chunks]; rfl
attribute [go_sem] evO oc_int oc_bool oc_str oc_sl oc_ptr oc_map oc_nf oc_fl oc_nif putT thenT blockT upd argsT srcD_sl srcD_str srcD_vs isAggD notInt rowTag kill intOfT isNilT
  partT partE cellT cellsT flatT ofD ofD1 toD1 toDs toD chunks_0 chunks_t chunks_f fillT
  wrapU8 wrapU16 wrapU32 wrapU64
  add8 sub8 mul8 and8 or8 xor8 shl8 shr8 not8 add16 sub16 mul16 and16 or16 xor16 shl16 shr16 not16
  add32 sub32 mul32 and32 or32 xor32 shl32 shr32 not32 add64 sub64 mul64 and64 or64 xor64 shl64 shr64 not64
  decide_true decide_false rem64 un_notB Bool.not_true Bool.not_false
  addI subI mulI remI quoI eqlI neqI lssI leqI gtrI geqI dB_len dB_get dB_drop dB_take
  List.map_cons List.map_nil List.all_cons List.all_nil Bool.and_true Bool.true_and List.head?_cons Option.bind_some Option.map_some Option.map_none Option.getD_none List.size_toArray
  List.set_cons_zero List.set_cons_succ List.take_succ_cons List.drop_succ_cons List.drop_zero List.take_zero Nat.mul_one Nat.one_mul Nat.zero_add List.getElem?_toArray or_true true_or forall_const not_true_eq_false Bool.false_eq_true false_implies imp_self ne_eq
  tvSlice_sl tvSl_lo tvSl_hi tvSl_lh tvSl_no
  tmodN
  LIM TS.set_n TS.push_n Int.toNat_natCast List.nil_append List.append_nil List.length_set splL_len List.length_append List.length_cons List.length_nil true_and and_true Tag.own.injEq TV.lit.injEq
  List.getElem?_cons_zero List.getElem?_cons_succ Option.getD_some BitVec.ofInt_natCast BitVec.ofNat_toNat BitVec.setWidth_eq
end Go.Proofs.YteafcknljhglkaaDoor.TL
