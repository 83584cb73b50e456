/-
  What the functions of the hash do: bits.RotateLeft32 and the like.
-/
import Derived.Test.YteafcknljhglkaaDoorTy
set_option linter.unusedVariables false
set_option linter.unusedSimpArgs false
namespace Go.Proofs.YteafcknljhglkaaDoor
open Go.RowKit TL
def firsts : List Nat := [0x6a09e667, 0xbb67ae85, 0x3c6ef372, 0xa54ff53a, 0x510e527f, 0x9b05688c, 0x1f83d9ab, 0x5be0cd19]
def keys : List Nat := [
  0x428a2f98, 0x71374491, 0xb5c0fbcf, 0xe9b5dba5, 0x3956c25b, 0x59f111f1, 0x923f82a4, 0xab1c5ed5,
  0xd807aa98, 0x12835b01, 0x243185be, 0x550c7dc3, 0x72be5d74, 0x80deb1fe, 0x9bdc06a7, 0xc19bf174,
  0xe49b69c1, 0xefbe4786, 0x0fc19dc6, 0x240ca1cc, 0x2de92c6f, 0x4a7484aa, 0x5cb0a9dc, 0x76f988da,
  0x983e5152, 0xa831c66d, 0xb00327c8, 0xbf597fc7, 0xc6e00bf3, 0xd5a79147, 0x06ca6351, 0x14292967,
  0x27b70a85, 0x2e1b2138, 0x4d2c6dfc, 0x53380d13, 0x650a7354, 0x766a0abb, 0x81c2c92e, 0x92722c85,
  0xa2bfe8a1, 0xa81a664b, 0xc24b8b70, 0xc76c51a3, 0xd192e819, 0xd6990624, 0xf40e3585, 0x106aa070,
  0x19a4c116, 0x1e376c08, 0x2748774c, 0x34b0bcb5, 0x391c0cb3, 0x4ed8aa4a, 0x5b9cca4f, 0x682e6ff3,
  0x748f82ee, 0x78a5636f, 0x84c87814, 0x8cc70208, 0x90befffa, 0xa4506ceb, 0xbef9a3f7, 0xc67178f2]
def kW : List (BitVec 32) := keys.map (BitVec.ofNat 32)
def fW : List (BitVec 32) := firsts.map (BitVec.ofNat 32)
def glob : Nat → TV
  | 0 => .eptr 8 (.agg (gD fW))
  | 1 => .eptr 64 (.agg (gD kW))
  | _ => .unk
noncomputable def env : Env := ⟨Tryd.prog, glob⟩
theorem env_P : env.P = Tryd.prog := rfl
def z64 : List (BitVec 32) := List.replicate 64 0
def z8 : List (BitVec 32) := List.replicate 8 0
theorem zeroA64_c : ofConst zero44 = .agg (dW z64) := rfl
theorem zeroA8_c : ofConst zero37 = .agg (dW z8) := rfl
theorem z64_len : z64.length = 64 := rfl
theorem z8_len : z8.length = 8 := rfl
theorem kW_len : kW.length = 64 := rfl
theorem fW_len : fW.length = 8 := rfl
theorem env_G : env.G = glob := rfl
theorem glob_0 : glob 0 = .eptr 8 (.agg (gD fW)) := rfl
theorem glob_1 : glob 1 = .eptr 64 (.agg (gD kW)) := rfl
attribute [go_sem] env_G glob_0 glob_1 zeroA64_c zeroA8_c z64_len z8_len kW_len fW_len
attribute [go_sem] env_P

def rot (x : BitVec 32) (k : Int) : BitVec 32 := x <<< (BitVec.ofInt 64 k &&& 31#64).toNat ||| x >>> (32#64 - (BitVec.ofInt 64 k &&& 31#64)).toNat
theorem rot_ok (S : TS) (x : BitVec 32) (k : Int) : TCall env 21 [.lit (w32 x), .lit (.int .i64 k)] S fun r S' => r = .lit (w32 (rot x k)) ∧ S' = S := by
  refine TCall.of 17 [.tmp 4] Tryd.func21 rfl rfl rfl rfl (by kernel_rfl) rfl ?_
  refine TWp.sr fun K hK => ?_
  simp (disch := omega) only [seval, go_sem]
  refine hK _ _ ?_
  clear hK; clear K
  refine TWp.sr fun K hK => ?_
  simp (disch := omega) only [seval, go_sem]
  refine hK _ _ ?_
  clear hK; clear K
  refine TWp.sr fun K hK => ?_
  simp (disch := omega) only [seval, go_sem]
  refine hK _ _ ?_
  exact TWp.ret ⟨.inr rfl, [_], ⟨rfl, trivial⟩, rfl, rfl⟩

def nought (q : List (BitVec 8)) : Nat := (120 - q.length % 64) % 64
def lenBytes (n : BitVec 64) : Nat → List (BitVec 8)
  | 0 => []
  | i + 1 => (n >>> (8 * i)).setWidth 8 :: lenBytes n i
def padding (p : List (BitVec 8)) : List (BitVec 8) := (p ++ [128#8]) ++ List.replicate (nought (p ++ [128#8])) 0#8 ++ lenBytes (BitVec.ofNat 64 p.length * 8#64) 8

theorem padded_ok (S : TS) (g : Tag) (p : List (BitVec 8)) (hp : p.length ≤ 1000000) : TCall env 16 [.sl g 1 (dB p)] S fun r S' => ∃ k, r = .sl (.own k) 1 (dB (padding p)) ∧ S.n ≤ k ∧ S'.objs k = .lin ∧ Keep S S' := by
  refine TCall.of 35 [.tmp 2] Tryd.func16 rfl rfl rfl rfl (by kernel_rfl) rfl ?_
  refine TWp.sr fun K hK => ?_
  simp (disch := omega) only [seval, go_sem]
  refine hK _ _ ?_
  clear hK; clear K
  refine TWp.sr fun K hK => ?_
  simp (disch := omega) only [seval, go_sem]
  refine ⟨by omega, by omega, hK _ _ ?_⟩
  clear hK; clear K
  refine TWp.seq_k fun K hK => ?_
  refine TWp.block (TWp.loop (fun n T S' => ∃ xs k, T 0 = .sl g 1 (dB p) ∧ T 3 = .sl (.own k) 1 (dB xs) ∧ S.n ≤ k ∧ S'.objs k = .lin ∧ Keep S S' ∧ xs.length + n ≤ 1000100 ∧ n = nought xs ∧ xs ++ List.replicate n 0#8 = (p ++ [128#8]) ++ List.replicate (nought (p ++ [128#8])) 0#8) (nought (p ++ [128#8])) ?_ ?_)
  · refine ⟨p ++ [128#8], _, rfl, by simp [dB, upd]; rfl, by simp [upd], ?_, ?_, ?_, rfl, rfl⟩
    · exact push_self _ _
    · exact (Keep.push S _).push' _
    · simp [nought]; omega
  rintro n T S' ⟨xs, k, h0, h3, hk, ho, hkeep, hlen, hn, hxs⟩
  refine TWp.seq_k fun K1 hK1 => TWp.sr fun K2 hK2 => ?_
  simp (disch := omega) only [seval, go_sem, h0, h3]
  refine hK2 _ _ (TWp.cond rfl (fun hb => TWp.skip (hK1 _ _ ?_)) (fun hb => TWp.exit (hK _ _ ?_)))
  · clear hK2; clear K2; clear hK1; clear K1
    refine TWp.block (TWp.rk fun K1 hK1 => ?_)
    simp (disch := omega) only [seval, go_sem, h0, h3, ho]
    refine ⟨by omega, hK1 _ _ ?_⟩
    clear hK1; clear K1
    have hb := of_decide_eq_true hb
    have h1 : nought xs = nought (xs ++ [0#8]) + 1 := by simp [nought]; omega
    refine ⟨nought (xs ++ [0#8]), by omega, xs ++ [0#8], _, by simp [upd, h0], by simp [dB, upd], hkeep.1, push_self _ _, (hkeep.set hk _).push' _, by simp; omega, rfl, ?_⟩
    rw [← hxs, hn, h1, List.replicate_succ]; simp
  have hb := of_decide_eq_false hb
  clear hK2; clear K2; clear hK1; clear K1; clear hK; clear K
  have hn0 : n = 0 := by rw [hn]; simp only [nought]; omega
  subst hn0
  simp only [List.replicate_zero, List.append_nil] at hxs
  refine TWp.sr fun K hK => ?_
  simp (disch := omega) only [seval, go_sem, h0, h3]
  refine hK _ _ ?_
  clear hK; clear K
  refine TWp.seq_k fun K hK => TWp.sr fun K1 hK1 => ?_
  simp (disch := omega) only [seval, go_sem, h0, h3]
  refine hK1 _ _ ?_
  clear hK1; clear K1
  refine TWp.block (TWp.loop (fun m T S' => ∃ ys k, T 4 = .lit (w64 (BitVec.ofNat 64 p.length * 8#64)) ∧ T 5 = .lit (.int .i64 ((m : Int) - 1)) ∧ T 3 = .sl (.own k) 1 (dB ys) ∧ S.n ≤ k ∧ S'.objs k = .lin ∧ Keep S S' ∧ ys.length + m ≤ 1000200 ∧ m ≤ 8 ∧ ys ++ lenBytes (BitVec.ofNat 64 p.length * 8#64) m = padding p) 8 ?_ ?_)
  · refine ⟨xs, k, rfl, rfl, by simp [upd, h3], hk, ho, hkeep, by omega, by omega, ?_⟩
    rw [padding, ← hxs]
  rintro m T S' ⟨ys, k, h4, h5, h3, hk, ho, hkeep, hlen, hm, hys⟩
  refine TWp.seq_k fun K1 hK1 => TWp.sr fun K2 hK2 => ?_
  simp (disch := omega) only [seval, go_sem, h4, h5, h3]
  refine hK2 _ _ (TWp.cond rfl (fun hb => TWp.skip (hK1 _ _ ?_)) (fun hb => TWp.exit (hK _ _ ?_)))
  · clear hK2; clear K2; clear hK1; clear K1
    have hb := of_decide_eq_true hb
    refine TWp.seq_k fun K0 hK0 => TWp.block (TWp.rk fun K1 hK1 => ?_)
    simp (disch := omega) only [seval, go_sem, h3, h4, h5, ho]
    refine ⟨by omega, hK1 _ _ (hK0 _ _ ?_)⟩
    clear hK1; clear K1; clear hK0; clear K0
    refine TWp.rk fun K1 hK1 => ?_
    simp (disch := omega) only [seval, go_sem, h3, h4, h5, ho]
    refine hK1 _ _ ?_
    clear hK1; clear K1
    obtain ⟨j, rfl⟩ : ∃ j, m = j + 1 := ⟨m - 1, by omega⟩
    refine ⟨j, by omega, ys ++ [((BitVec.ofNat 64 p.length * 8#64) >>> (8 * j)).setWidth 8], _, by simp [upd, h4], ?_, ?_, hkeep.1, push_self _ _, (hkeep.set hk _).push' _, by simp; omega, by omega, ?_⟩
    · simp [upd]
    · simp [upd, dB]
    · rw [← hys]; simp [lenBytes]
  have hb := of_decide_eq_false hb
  clear hK2; clear K2; clear hK1; clear K1; clear hK; clear K
  have hm0 : m = 0 := by omega
  subst hm0
  simp only [lenBytes, List.append_nil] at hys
  refine TWp.sr fun K hK => ?_
  simp (disch := omega) only [seval, go_sem, h3]
  refine hK _ _ ?_
  clear hK; clear K
  exact TWp.ret ⟨.inr rfl, [_], ⟨rfl, trivial⟩, k, by rw [← hys]; rfl, hk, ho, hkeep⟩
end Go.Proofs.YteafcknljhglkaaDoor
