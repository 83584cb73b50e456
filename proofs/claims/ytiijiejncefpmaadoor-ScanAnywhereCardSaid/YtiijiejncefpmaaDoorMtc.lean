/-
  The program's types; what the reference's hash does (no table of the program's is listed).
-/
import Derived.Test.YtiijiejncefpmaaDoorMt
import Derived.Test.YtiijiejncefpmaaDoorProg
set_option linter.unusedVariables false
set_option linter.unusedSimpArgs false
namespace Go.Proofs.YtiijiejncefpmaaDoor
open Go.RowKit TL
theorem ti3 : tiOf Tryd.prog 3 = some ⟨.int .i64, 1, 8, .int (.i64) 0⟩ := by kernel_rfl
theorem ti4 : tiOf Tryd.prog 4 = some ⟨.bool, 1, 1, .bool false⟩ := by kernel_rfl
theorem un4 : Program.underlying Tryd.prog 4 = some .bool := by kernel_rfl
theorem ti5 : tiOf Tryd.prog 5 = some ⟨.int .u8, 1, 1, .int (.u8) 0⟩ := by kernel_rfl
theorem ti9 : tiOf Tryd.prog 9 = some ⟨.string, 1, 16, .string (⟨#[]⟩)⟩ := by kernel_rfl
theorem ti21 : tiOf Tryd.prog 21 = some ⟨.int .i32, 1, 4, .int (.i32) 0⟩ := by kernel_rfl
theorem ti26 : tiOf Tryd.prog 26 = some ⟨.slice 5, 1, 24, .slice none 0 0⟩ := by kernel_rfl
theorem ti27 : tiOf Tryd.prog 27 = some ⟨.int .i64, 1, 8, .int (.i64) 0⟩ := by kernel_rfl
theorem ti30 : tiOf Tryd.prog 30 = some ⟨.slice 90, 1, 24, .slice none 0 0⟩ := by kernel_rfl
def fs32 : Array Field := #[⟨"H", 30, 0, false, "", "", 0⟩, ⟨"K", 30, 1, false, "", "", 24⟩]
theorem fs32_0 : fs32[0]? = some ⟨"H", 30, 0, false, "", "", 0⟩ := rfl
theorem fs32_1 : fs32[1]? = some ⟨"K", 30, 1, false, "", "", 24⟩ := rfl
theorem pl32 : placesOf Tryd.prog fs32.toList = some [(0, 1), (1, 1)] := by kernel_rfl
def zero32 : Value := .agg #[.slice none 0 0, .slice none 0 0]
theorem zero32_c : ofConst zero32 = .agg [.sl .full 0 [], .sl .full 0 []] := rfl
theorem ti32 : tiOf Tryd.prog 32 = some ⟨.struct fs32, 2, 48, zero32⟩ := by kernel_rfl
theorem ti35 : tiOf Tryd.prog 35 = some ⟨.slice 9, 1, 24, .slice none 0 0⟩ := by kernel_rfl
theorem ti40 : tiOf Tryd.prog 40 = some ⟨.slice 74, 1, 24, .slice none 0 0⟩ := by kernel_rfl
theorem ti45 : tiOf Tryd.prog 45 = some ⟨.slice 3, 1, 24, .slice none 0 0⟩ := by kernel_rfl
theorem ti66 : tiOf Tryd.prog 66 = some ⟨.pointer 68, 1, 8, .pointer none⟩ := by kernel_rfl
theorem pt66 : ptrTy Tryd.prog 66 = some false := by kernel_rfl
def fs68 : Array Field := #[⟨"p", 26, 0, false, "", "godown/wire", 0⟩]
theorem fs68_0 : fs68[0]? = some ⟨"p", 26, 0, false, "", "godown/wire", 0⟩ := rfl
theorem pl68 : placesOf Tryd.prog fs68.toList = some [(0, 1)] := by kernel_rfl
def zero68 : Value := .agg #[.slice none 0 0]
theorem zero68_c : ofConst zero68 = .agg [.sl .full 0 []] := rfl
theorem ti68 : tiOf Tryd.prog 68 = some ⟨.struct fs68, 1, 24, zero68⟩ := by kernel_rfl
def fs74 : Array Field := #[⟨"P", 26, 0, false, "", "", 0⟩, ⟨"N", 5, 1, false, "", "", 24⟩, ⟨"Cut", 5, 2, false, "", "", 25⟩]
theorem fs74_0 : fs74[0]? = some ⟨"P", 26, 0, false, "", "", 0⟩ := rfl
theorem fs74_1 : fs74[1]? = some ⟨"N", 5, 1, false, "", "", 24⟩ := rfl
theorem fs74_2 : fs74[2]? = some ⟨"Cut", 5, 2, false, "", "", 25⟩ := rfl
theorem pl74 : placesOf Tryd.prog fs74.toList = some [(0, 1), (1, 1), (2, 1)] := by kernel_rfl
def zero74 : Value := .agg #[.slice none 0 0, .int (.u8) 0, .int (.u8) 0]
theorem zero74_c : ofConst zero74 = .agg [.sl .full 0 [], .lit (.int (.u8) 0), .lit (.int (.u8) 0)] := rfl
theorem ti74 : tiOf Tryd.prog 74 = some ⟨.struct fs74, 3, 32, zero74⟩ := by kernel_rfl
theorem ti75 : tiOf Tryd.prog 75 = some ⟨.map 9 45, 1, 8, .map none⟩ := by kernel_rfl
theorem pt75 : ptrTy Tryd.prog 75 = some true := by kernel_rfl
theorem ti78 : tiOf Tryd.prog 78 = some ⟨.int .u64, 1, 8, .int (.u64) 0⟩ := by kernel_rfl
def zero83 : Value := .agg (Array.replicate 256 (.bool false))
theorem ti83 : tiOf Tryd.prog 83 = some ⟨.array 256 4, 256, 256, zero83⟩ := by kernel_rfl
theorem ti87 : tiOf Tryd.prog 87 = some ⟨.pointer 83, 1, 8, .pointer none⟩ := by kernel_rfl
theorem pt87 : ptrTy Tryd.prog 87 = some false := by kernel_rfl
theorem ti89 : tiOf Tryd.prog 89 = some ⟨.int .u64, 1, 8, .int (.u64) 0⟩ := by kernel_rfl
theorem ti90 : tiOf Tryd.prog 90 = some ⟨.int .u32, 1, 4, .int (.u32) 0⟩ := by kernel_rfl
theorem ti93 : tiOf Tryd.prog 93 = some ⟨.slice 89, 1, 24, .slice none 0 0⟩ := by kernel_rfl
def zero98 : Value := .agg (Array.replicate 8 (.int (.u32) 0))
theorem ti98 : tiOf Tryd.prog 98 = some ⟨.array 8 90, 8, 32, zero98⟩ := by kernel_rfl
theorem ti101 : tiOf Tryd.prog 101 = some ⟨.pointer 103, 1, 8, .pointer none⟩ := by kernel_rfl
theorem pt101 : ptrTy Tryd.prog 101 = some false := by kernel_rfl
def fs103 : Array Field := #[⟨"addr", 101, 0, false, "", "strings", 0⟩, ⟨"buf", 26, 1, false, "", "strings", 8⟩]
theorem fs103_0 : fs103[0]? = some ⟨"addr", 101, 0, false, "", "strings", 0⟩ := rfl
theorem fs103_1 : fs103[1]? = some ⟨"buf", 26, 1, false, "", "strings", 8⟩ := rfl
theorem pl103 : placesOf Tryd.prog fs103.toList = some [(0, 1), (1, 1)] := by kernel_rfl
def zero103 : Value := .agg #[.pointer none, .slice none 0 0]
theorem zero103_c : ofConst zero103 = .agg [.lit (.pointer none), .sl .full 0 []] := rfl
theorem ti103 : tiOf Tryd.prog 103 = some ⟨.struct fs103, 2, 32, zero103⟩ := by kernel_rfl
def zero115 : Value := .agg (Array.replicate 64 (.int (.u32) 0))
theorem ti115 : tiOf Tryd.prog 115 = some ⟨.array 64 90, 64, 256, zero115⟩ := by kernel_rfl
theorem ti117 : tiOf Tryd.prog 117 = some ⟨.pointer 5, 1, 8, .pointer none⟩ := by kernel_rfl
theorem pt117 : ptrTy Tryd.prog 117 = some false := by kernel_rfl
theorem ti119 : tiOf Tryd.prog 119 = some ⟨.int .i64, 1, 8, .int (.i64) 0⟩ := by kernel_rfl
theorem ti132 : tiOf Tryd.prog 132 = some ⟨.unsafePointer, 1, 8, .pointer none⟩ := by kernel_rfl
theorem ti134 : tiOf Tryd.prog 134 = some ⟨.int .u64, 1, 8, .int (.u64) 0⟩ := by kernel_rfl
theorem ti138 : tiOf Tryd.prog 138 = some ⟨.pointer 3, 1, 8, .pointer none⟩ := by kernel_rfl
theorem pt138 : ptrTy Tryd.prog 138 = some false := by kernel_rfl
def zero140 : Value := .agg (Array.replicate 256 (.int (.u8) 0))
theorem ti140 : tiOf Tryd.prog 140 = some ⟨.array 256 5, 256, 256, zero140⟩ := by kernel_rfl
def fs142 : Array Field := #[⟨"lo", 5, 0, false, "", "unicode/utf8", 0⟩, ⟨"hi", 5, 1, false, "", "unicode/utf8", 1⟩]
theorem fs142_0 : fs142[0]? = some ⟨"lo", 5, 0, false, "", "unicode/utf8", 0⟩ := rfl
theorem fs142_1 : fs142[1]? = some ⟨"hi", 5, 1, false, "", "unicode/utf8", 1⟩ := rfl
theorem pl142 : placesOf Tryd.prog fs142.toList = some [(0, 1), (1, 1)] := by kernel_rfl
def zero142 : Value := .agg #[.int (.u8) 0, .int (.u8) 0]
theorem zero142_c : ofConst zero142 = .agg [.lit (.int (.u8) 0), .lit (.int (.u8) 0)] := rfl
theorem ti142 : tiOf Tryd.prog 142 = some ⟨.struct fs142, 2, 2, zero142⟩ := by kernel_rfl
def zero143 : Value := .agg (Array.replicate 32 (.int (.u8) 0))
theorem ti143 : tiOf Tryd.prog 143 = some ⟨.array 16 142, 32, 32, zero143⟩ := by kernel_rfl
attribute [go_sem] ti3 ti4 un4 ti5 ti9 ti21 ti26 ti27 ti30 fs32_0 fs32_1 pl32 zero32_c ti32 ti35 ti40 ti45 ti66 pt66 fs68_0 pl68 zero68_c ti68 fs74_0 fs74_1 fs74_2 pl74 zero74_c ti74 ti75 pt75 ti78 ti83 ti87 pt87 ti89 ti90 ti93 ti98 ti101 pt101 fs103_0 fs103_1 pl103 zero103_c ti103 ti115 ti117 pt117 ti119 ti132 ti134 ti138 pt138 ti140 fs142_0 fs142_1 pl142 zero142_c ti142 ti143
end Go.Proofs.YtiijiejncefpmaaDoor
namespace Go.Proofs.YtiijiejncefpmaaDoor
open Go.RowKit TL
def firsts : List Nat := [0x6a09e667, 0xbb67ae85, 0x3c6ef372, 0xa54ff53a, 0x510e527f, 0x9b05688c, 0x1f83d9ab, 0x5be0cd19]
def keys : List Nat := [
  0x428a2f98, 0x71374491, 0xb5c0fbcf, 0xe9b5dba5, 0x3956c25b, 0x59f111f1, 0x923f82a4, 0xab1c5ed5,
  0xd807aa98, 0x12835b01, 0x243185be, 0x550c7dc3, 0x72be5d74, 0x80deb1fe, 0x9bdc06a7, 0xc19bf174,
  0xe49b69c1, 0xefbe4786, 0x0fc19dc6, 0x240ca1cc, 0x2de92c6f, 0x4a7484aa, 0x5cb0a9dc, 0x76f988da,
  0x983e5152, 0xa831c66d, 0xb00327c8, 0xbf597fc7, 0xc6e00bf3, 0xd5a79147, 0x06ca6351, 0x14292967,
  0x27b70a85, 0x2e1b2138, 0x4d2c6dfc, 0x53380d13, 0x650a7354, 0x766a0abb, 0x81c2c92e, 0x92722c85,
  0xa2bfe8a1, 0xa81a664b, 0xc24b8b70, 0xc76c51a3, 0xd192e819, 0xd6990624, 0xf40e3585, 0x106aa070,
  0x19a4c116, 0x1e376c08, 0x2748774c, 0x34b0bcb5, 0x391c0cb3, 0x4ed8aa4a, 0x5b9cca4f, 0x682e6ff3,
  0x748f82ee, 0x78a5636f, 0x84c87814, 0x8cc70208, 0x90befffa, 0xa4506ceb, 0xbef9a3f7, 0xc67178f2]
def kW : List (BitVec 32) := keys.map (BitVec.ofNat 32)
def fW : List (BitVec 32) := firsts.map (BitVec.ofNat 32)
def glob : Nat → TV := fun _ => .unk
def wrAt (p : String) : Bool := p == "law.go:40"
noncomputable def env : Env := { P := Tryd.prog, G := glob, wr := wrAt }
theorem env_wr (p : String) : env.wr p = (p == "law.go:40") := rfl
attribute [go_sem] env_wr
theorem env_P : env.P = Tryd.prog := rfl
def z64 : List (BitVec 32) := List.replicate 64 0
def z8 : List (BitVec 32) := List.replicate 8 0
theorem zeroA64_c : ofConst zero115 = .agg (dW z64) := rfl
theorem zeroA8_c : ofConst zero98 = .agg (dW z8) := rfl
theorem z64_len : z64.length = 64 := rfl
theorem z8_len : z8.length = 8 := rfl
theorem kW_len : kW.length = 64 := rfl
theorem fW_len : fW.length = 8 := rfl
theorem env_G : env.G = glob := rfl
attribute [go_sem] env_G zeroA64_c zeroA8_c z64_len z8_len kW_len fW_len
attribute [go_sem] env_P

def rot (x : BitVec 32) (k : Int) : BitVec 32 := x <<< (BitVec.ofInt 64 k &&& 31#64).toNat ||| x >>> (32#64 - (BitVec.ofInt 64 k &&& 31#64)).toNat
theorem rot_ok (S : TS) (x : BitVec 32) (k : Int) : TCall env 87 [.lit (w32 x), .lit (.int .i64 k)] S fun r S' => r = .lit (w32 (rot x k)) ∧ S' = S := by
  refine TCall.of 17 [.tmp 4] Tryd.func87 rfl rfl rfl rfl (by kernel_rfl) rfl ?_
  refine TWp.sr fun K hK => ?_
  simp (disch := omega) only [seval, go_sem]
  refine hK _ _ ?_
  clear hK; clear K
  refine TWp.sr fun K hK => ?_
  simp (disch := omega) only [seval, go_sem]
  refine hK _ _ ?_
  clear hK; clear K
  refine TWp.sr fun K hK => ?_
  simp (disch := omega) only [seval, go_sem]
  refine hK _ _ ?_
  exact TWp.ret ⟨.inr rfl, [_], ⟨rfl, trivial⟩, rfl, rfl⟩

def nought (q : List (BitVec 8)) : Nat := (120 - q.length % 64) % 64
def lenBytes (n : BitVec 64) : Nat → List (BitVec 8)
  | 0 => []
  | i + 1 => (n >>> (8 * i)).setWidth 8 :: lenBytes n i
def padding (p : List (BitVec 8)) : List (BitVec 8) := (p ++ [128#8]) ++ List.replicate (nought (p ++ [128#8])) 0#8 ++ lenBytes (BitVec.ofNat 64 p.length * 8#64) 8

theorem padded_ok (S : TS) (g : Tag) (p : List (BitVec 8)) (hp : p.length ≤ 1000000) : TCall env 71 [.sl g 1 (dB p)] S fun r S' => ∃ k, r = .sl (.own k) 1 (dB (padding p)) ∧ S.n ≤ k ∧ S'.objs k = .lin ∧ Keep S S' := by
  refine TCall.of 35 [.tmp 2] Tryd.func71 rfl rfl rfl rfl (by kernel_rfl) rfl ?_
  refine TWp.sr fun K hK => ?_
  simp (disch := omega) only [seval, go_sem]
  refine hK _ _ ?_
  clear hK; clear K
  refine TWp.sr fun K hK => ?_
  simp (disch := omega) only [seval, go_sem]
  refine ⟨by omega, by omega, hK _ _ ?_⟩
  clear hK; clear K
  refine TWp.seq_k fun K hK => ?_
  refine TWp.block (TWp.loop (fun n T S' => ∃ xs k, T 0 = .sl g 1 (dB p) ∧ T 3 = .sl (.own k) 1 (dB xs) ∧ S.n ≤ k ∧ S'.objs k = .lin ∧ Keep S S' ∧ xs.length + n ≤ 1000100 ∧ n = nought xs ∧ xs ++ List.replicate n 0#8 = (p ++ [128#8]) ++ List.replicate (nought (p ++ [128#8])) 0#8) (nought (p ++ [128#8])) ?_ ?_)
  · refine ⟨p ++ [128#8], _, rfl, by simp [dB, upd]; rfl, by simp [upd], ?_, ?_, ?_, rfl, rfl⟩
    · exact push_self _ _
    · exact (Keep.push S _).push' _
    · simp [nought]; omega
  rintro n T S' ⟨xs, k, h0, h3, hk, ho, hkeep, hlen, hn, hxs⟩
  refine TWp.seq_k fun K1 hK1 => TWp.sr fun K2 hK2 => ?_
  simp (disch := omega) only [seval, go_sem, h0, h3]
  refine hK2 _ _ (TWp.cond rfl (fun hb => TWp.skip (hK1 _ _ ?_)) (fun hb => TWp.exit (hK _ _ ?_)))
  · clear hK2; clear K2; clear hK1; clear K1
    refine TWp.block (TWp.rk fun K1 hK1 => ?_)
    simp (disch := omega) only [seval, go_sem, h0, h3, ho]
    refine ⟨by omega, hK1 _ _ ?_⟩
    clear hK1; clear K1
    have hb := of_decide_eq_true hb
    have h1 : nought xs = nought (xs ++ [0#8]) + 1 := by simp [nought]; omega
    refine ⟨nought (xs ++ [0#8]), by omega, xs ++ [0#8], _, by simp [upd, h0], by simp [dB, upd], hkeep.1, push_self _ _, (hkeep.set hk _).push' _, by simp; omega, rfl, ?_⟩
    rw [← hxs, hn, h1, List.replicate_succ]; simp
  have hb := of_decide_eq_false hb
  clear hK2; clear K2; clear hK1; clear K1; clear hK; clear K
  have hn0 : n = 0 := by rw [hn]; simp only [nought]; omega
  subst hn0
  simp only [List.replicate_zero, List.append_nil] at hxs
  refine TWp.sr fun K hK => ?_
  simp (disch := omega) only [seval, go_sem, h0, h3]
  refine hK _ _ ?_
  clear hK; clear K
  refine TWp.seq_k fun K hK => TWp.sr fun K1 hK1 => ?_
  simp (disch := omega) only [seval, go_sem, h0, h3]
  refine hK1 _ _ ?_
  clear hK1; clear K1
  refine TWp.block (TWp.loop (fun m T S' => ∃ ys k, T 4 = .lit (w64 (BitVec.ofNat 64 p.length * 8#64)) ∧ T 5 = .lit (.int .i64 ((m : Int) - 1)) ∧ T 3 = .sl (.own k) 1 (dB ys) ∧ S.n ≤ k ∧ S'.objs k = .lin ∧ Keep S S' ∧ ys.length + m ≤ 1000200 ∧ m ≤ 8 ∧ ys ++ lenBytes (BitVec.ofNat 64 p.length * 8#64) m = padding p) 8 ?_ ?_)
  · refine ⟨xs, k, rfl, rfl, by simp [upd, h3], hk, ho, hkeep, by omega, by omega, ?_⟩
    rw [padding, ← hxs]
  rintro m T S' ⟨ys, k, h4, h5, h3, hk, ho, hkeep, hlen, hm, hys⟩
  refine TWp.seq_k fun K1 hK1 => TWp.sr fun K2 hK2 => ?_
  simp (disch := omega) only [seval, go_sem, h4, h5, h3]
  refine hK2 _ _ (TWp.cond rfl (fun hb => TWp.skip (hK1 _ _ ?_)) (fun hb => TWp.exit (hK _ _ ?_)))
  · clear hK2; clear K2; clear hK1; clear K1
    have hb := of_decide_eq_true hb
    refine TWp.seq_k fun K0 hK0 => TWp.block (TWp.rk fun K1 hK1 => ?_)
    simp (disch := omega) only [seval, go_sem, h3, h4, h5, ho]
    refine ⟨by omega, hK1 _ _ (hK0 _ _ ?_)⟩
    clear hK1; clear K1; clear hK0; clear K0
    refine TWp.rk fun K1 hK1 => ?_
    simp (disch := omega) only [seval, go_sem, h3, h4, h5, ho]
    refine hK1 _ _ ?_
    clear hK1; clear K1
    obtain ⟨j, rfl⟩ : ∃ j, m = j + 1 := ⟨m - 1, by omega⟩
    refine ⟨j, by omega, ys ++ [((BitVec.ofNat 64 p.length * 8#64) >>> (8 * j)).setWidth 8], _, by simp [upd, h4], ?_, ?_, hkeep.1, push_self _ _, (hkeep.set hk _).push' _, by simp; omega, by omega, ?_⟩
    · simp [upd]
    · simp [upd, dB]
    · rw [← hys]; simp [lenBytes]
  have hb := of_decide_eq_false hb
  clear hK2; clear K2; clear hK1; clear K1; clear hK; clear K
  have hm0 : m = 0 := by omega
  subst hm0
  simp only [lenBytes, List.append_nil] at hys
  refine TWp.sr fun K hK => ?_
  simp (disch := omega) only [seval, go_sem, h3]
  refine hK _ _ ?_
  clear hK; clear K
  exact TWp.ret ⟨.inr rfl, [_], ⟨rfl, trivial⟩, k, by rw [← hys]; rfl, hk, ho, hkeep⟩
end Go.Proofs.YtiijiejncefpmaaDoor
namespace Go.Proofs.YtiijiejncefpmaaDoor
open Go.RowKit TL

theorem follows : env.P.follows .mixedOrders = true := by kernel_rfl

def wordAt (p : List (BitVec 8)) (i : Nat) : BitVec 32 :=
  (BitVec.setWidth 32 (p.getD i 0)) <<< 24 ||| (BitVec.setWidth 32 (p.getD (i + 1) 0)) <<< 16 ||| (BitVec.setWidth 32 (p.getD (i + 2) 0)) <<< 8 ||| (BitVec.setWidth 32 (p.getD (i + 3) 0))
def low (a : BitVec 32) : BitVec 32 := rot a (-7) ^^^ rot a (-18) ^^^ a >>> 3
def high (b : BitVec 32) : BitVec 32 := rot b (-17) ^^^ rot b (-19) ^^^ b >>> 10
def wordStep (p : List (BitVec 8)) (i : Nat) (w : List (BitVec 32)) : BitVec 32 :=
  if i < 16 then wordAt p (4 * i) else w.getD (i - 16) 0 + low (w.getD (i - 15) 0) + w.getD (i - 7) 0 + high (w.getD (i - 2) 0)
def sched (p : List (BitVec 8)) : Nat → List (BitVec 32)
  | 0 => z64
  | i + 1 => (sched p i).set i (wordStep p i (sched p i))
theorem sched_len (p : List (BitVec 8)) : ∀ i, (sched p i).length = 64
  | 0 => rfl
  | i + 1 => by simp [sched, sched_len p i]

theorem c_bits_RotateLeft32 {S : TS} {x : BitVec 32} {k : Int} {K : TV → TS → Prop} (h : K (.lit (w32 (rot x k))) S) : TCall env 87 [.lit (w32 x), .lit (.int .i64 k)] S K :=
  (rot_ok S x k).mono fun t S' ⟨h1, h2⟩ => by rw [h1, h2]; exact h

end Go.Proofs.YtiijiejncefpmaaDoor
namespace Go.Proofs.YtiijiejncefpmaaDoor
open Go.RowKit TL

def turnStep (w : List (BitVec 32)) (i : Nat) (s : List (BitVec 32)) : List (BitVec 32) :=
  let e := rot (s.getD 4 0) (-6) ^^^ rot (s.getD 4 0) (-11) ^^^ rot (s.getD 4 0) (-25)
  let choice := (s.getD 4 0 &&& s.getD 5 0) ^^^ (~~~ s.getD 4 0 &&& s.getD 6 0)
  let x := s.getD 7 0 + e + choice + kW.getD i 0 + w.getD i 0
  let a := rot (s.getD 0 0) (-2) ^^^ rot (s.getD 0 0) (-13) ^^^ rot (s.getD 0 0) (-22)
  let most := (s.getD 0 0 &&& s.getD 1 0) ^^^ (s.getD 0 0 &&& s.getD 2 0) ^^^ (s.getD 1 0 &&& s.getD 2 0)
  ((splL s 1 (s.take 7)).set 4 ((splL s 1 (s.take 7)).getD 4 0 + x)).set 0 (x + a + most)
def turnUpto (p : List (BitVec 8)) (h : List (BitVec 32)) : Nat → List (BitVec 32)
  | 0 => h
  | i + 1 => turnStep (sched p 64) i (turnUpto p h i)
def addUpto (h s : List (BitVec 32)) : Nat → List (BitVec 32)
  | 0 => h
  | i + 1 => (addUpto h s i).set i ((addUpto h s i).getD i 0 + s.getD i 0)
def turn (h : List (BitVec 32)) (p : List (BitVec 8)) : List (BitVec 32) := addUpto h (turnUpto p h 64) 8
theorem turnUpto_len (p : List (BitVec 8)) (h : List (BitVec 32)) (hh : h.length = 8) : ∀ i, (turnUpto p h i).length = 8
  | 0 => hh
  | i + 1 => by simp [turnUpto, turnStep, splL_len, turnUpto_len p h hh i]
theorem addUpto_len (h s : List (BitVec 32)) (hh : h.length = 8) : ∀ i, (addUpto h s i).length = 8
  | 0 => hh
  | i + 1 => by simp [addUpto, addUpto_len h s hh i]

end Go.Proofs.YtiijiejncefpmaaDoor
namespace Go.Proofs.YtiijiejncefpmaaDoor
open Go.RowKit TL

theorem turn_len (h : List (BitVec 32)) (p : List (BitVec 8)) (hh : h.length = 8) : (turn h p).length = 8 := addUpto_len _ _ hh 8
def sumN : Nat → List (BitVec 32) → List (BitVec 8) → List (BitVec 32)
  | 0, h, _ => h
  | n + 1, h, q => sumN n (turn h (q.take 64)) (q.drop 64)
def wordB (x : BitVec 32) : List (BitVec 8) := [(x >>> 24).setWidth 8, (x >>> 16).setWidth 8, (x >>> 8).setWidth 8, x.setWidth 8]
def wordsB (h : List (BitVec 32)) : List (BitVec 8) := h.flatMap wordB
theorem wordsB_len : ∀ (h : List (BitVec 32)), (wordsB h).length = 4 * h.length
  | [] => rfl
  | x :: h => by have := wordsB_len h; simp [wordsB, wordB] at this ⊢; omega
theorem wordsB_snoc (h : List (BitVec 32)) (i : Nat) (hi : i < h.length) : wordsB (h.take (i + 1)) = wordsB (h.take i) ++ wordB (h.getD i 0) := by
  rw [List.take_succ_eq_append_getElem hi, wordsB, List.flatMap_append]
  simp [wordsB, List.getD_eq_getElem?_getD, List.getElem?_eq_getElem hi]
theorem sumN_len : ∀ (n : Nat) (h : List (BitVec 32)) (q : List (BitVec 8)), h.length = 8 → (sumN n h q).length = 8
  | 0, h, _, hh => hh
  | n + 1, h, q, hh => sumN_len n _ _ (turn_len _ _ hh)
def sha (p : List (BitVec 8)) : List (BitVec 8) := wordsB (sumN ((padding p).length / 64) fW (padding p))
theorem lenBytes_len (x : BitVec 64) : ∀ n, (lenBytes x n).length = n
  | 0 => rfl
  | n + 1 => by simp [lenBytes, lenBytes_len x n]
theorem padding_len (p : List (BitVec 8)) : (padding p).length % 64 = 0 := by
  simp [padding, nought, lenBytes_len]; omega
theorem padding_max (p : List (BitVec 8)) : (padding p).length ≤ p.length + 200 := by
  simp [padding, nought, lenBytes_len]; omega
theorem sha_len (p : List (BitVec 8)) : (sha p).length = 32 := by rw [sha, wordsB_len, sumN_len _ _ _ fW_len]

end Go.Proofs.YtiijiejncefpmaaDoor
namespace Go.Proofs.YtiijiejncefpmaaDoor
open Go.RowKit TL

theorem take_succ_getD {α : Type} {a : List α} {i : Nat} (d : α) (h : i < a.length) : a.take (i + 1) = a.take i ++ [a.getD i d] := by
  rw [List.take_succ_eq_append_getElem h]
  simp [List.getD_eq_getElem?_getD, List.getElem?_eq_getElem h]

set_option maxRecDepth 8000 in
theorem c_godownref01_Bytes_ok (S : TS) (g1 g2 : Tag) (a b : List (BitVec 8)) (ha : a.length ≤ 1000000) : TCall env 35 [.sl g1 1 (dB a), .sl g2 1 (dB b)] S fun r S' => r = .lit (.bool (decide (a = b))) ∧ S' = S := by
  refine TCall.of 26 [.tmp 4] Tryd.func35 rfl rfl rfl rfl (by kernel_rfl) rfl ?_
  refine TWp.sr fun K0 hK0 => ?_
  simp -implicitDefEqProofs (disch := omega) only [seval, go_sem]
  repeat (refine ⟨by first | omega | exact Keep.push _ _, ?_⟩)
  refine hK0 _ _ ?_; try (clear hK0; clear K0)
  refine TWp.seq_k fun K1 hK1 => ?_
  refine TWp.sr fun K2 hK2 => ?_
  simp -implicitDefEqProofs (disch := omega) only [seval, go_sem]
  repeat (refine ⟨by first | omega | exact Keep.push _ _, ?_⟩)
  refine hK2 _ _ ?_; try (clear hK2; clear K2)
  refine TWp.cond_k fun K3 hK3 => ?_
  simp -implicitDefEqProofs (disch := omega) only [seval, go_sem]
  refine hK3 _ (fun hb => ?_) (fun hb => ?_) <;> clear hK3 <;> clear K3
  · try (replace hb := of_decide_eq_true hb)
    refine TWp.sr fun K4 hK4 => ?_
    simp -implicitDefEqProofs (disch := omega) only [seval, go_sem]
    repeat (refine ⟨by first | omega | exact Keep.push _ _, ?_⟩)
    refine hK4 _ _ ?_; try (clear hK4; clear K4)
    refine TWp.ret ⟨.inr rfl, [_], ⟨rfl, trivial⟩, ?_, rfl⟩
    show TV.lit (.bool false) = _
    rw [decide_eq_false]
    intro h; subst h; exact hb rfl
  · try (replace hb := of_decide_eq_false hb)
    refine TWp.skip ?_
    refine hK1 _ _ ?_; try (clear hK1; clear K1)
    refine TWp.seq_k fun K5 hK5 => ?_
    refine TWp.sr fun K6 hK6 => ?_
    simp -implicitDefEqProofs (disch := omega) only [seval, go_sem]
    repeat (refine ⟨by first | omega | exact Keep.push _ _, ?_⟩)
    refine hK6 _ _ ?_; try (clear hK6; clear K6)
    refine TWp.block ?_
    refine TWp.loop (fun n T S' => ∃ i, n + i = a.length ∧ a.take i = b.take i ∧ T 0 = .sl g1 1 (dB a) ∧ T 1 = .sl g2 1 (dB b) ∧ T 5 = .lit (.int .i64 (i : Int)) ∧ S' = S) (a.length) ?_ ?_
    · exact ⟨0, rfl, rfl, rfl, rfl, rfl, rfl⟩
    rintro n T S' ⟨i, hn, htk, h0, h1, h5, rfl⟩
    refine TWp.seq_k fun K7 hK7 => ?_
    refine TWp.sr fun K8 hK8 => ?_
    simp -implicitDefEqProofs (disch := omega) only [seval, go_sem, h0, h1, h5]
    repeat (refine ⟨by first | omega | exact Keep.push _ _, ?_⟩)
    refine hK8 _ _ ?_; try (clear hK8; clear K8)
    refine TWp.cond_k fun K9 hK9 => ?_
    simp -implicitDefEqProofs (disch := omega) only [seval, go_sem, h0, h1, h5]
    refine hK9 _ (fun hb => ?_) (fun hb => ?_) <;> clear hK9 <;> clear K9
    · try (replace hb := of_decide_eq_true hb)
      refine TWp.skip ?_
      refine hK7 _ _ ?_; try (clear hK7; clear K7)
      refine TWp.seq_k fun K10 hK10 => ?_
      refine TWp.block ?_
      refine TWp.sd [(0, 0), (1, 0), (2, 0), (3, 0), (4, 0), (5, 0), (6, 0), (7, 0), (8, 0)] follows (by kernel_rfl) fun K11 hK11 => ?_
      simp -implicitDefEqProofs (disch := omega) only [seval, go_sem, h0, h1, h5]
      repeat (refine ⟨by first | omega | exact Keep.push _ _, ?_⟩)
      refine hK11 _ _ ?_; try (clear hK11; clear K11)
      refine TWp.cond_k fun K12 hK12 => ?_
      simp -implicitDefEqProofs (disch := omega) only [seval, go_sem, h0, h1, h5]
      refine hK12 _ (fun hb => ?_) (fun hb => ?_) <;> clear hK12 <;> clear K12
      · try (replace hb := of_decide_eq_true hb)
        refine TWp.sr fun K13 hK13 => ?_
        simp -implicitDefEqProofs (disch := omega) only [seval, go_sem, h0, h1, h5]
        repeat (refine ⟨by first | omega | exact Keep.push _ _, ?_⟩)
        refine hK13 _ _ ?_; try (clear hK13; clear K13)
        refine TWp.ret ⟨.inr rfl, [_], ⟨rfl, trivial⟩, ?_, rfl⟩
        show TV.lit (.bool false) = _
        rw [decide_eq_false]
        intro h; subst h; exact hb rfl
      · try (replace hb := of_decide_eq_false hb)
        refine TWp.skip ?_
        refine hK10 _ _ ?_; try (clear hK10; clear K10)
        refine TWp.rk fun K14 hK14 => ?_
        simp -implicitDefEqProofs (disch := omega) only [seval, go_sem, h0, h1, h5]
        repeat (refine ⟨by first | omega | exact Keep.push _ _, ?_⟩)
        refine hK14 _ _ ?_; try (clear hK14; clear K14)
        refine ⟨n - 1, by omega, i + 1, by omega, ?_, h0, h1, rfl, rfl⟩
        have e : a.getD i 0#8 = b.getD i 0#8 := BitVec.eq_of_toNat_eq (by omega)
        rw [take_succ_getD 0#8 (by omega), take_succ_getD 0#8 (by omega), htk, e]
    · try (replace hb := of_decide_eq_false hb)
      refine TWp.exit ?_
      refine hK5 _ _ ?_; try (clear hK5; clear K5)
      refine TWp.sr fun K15 hK15 => ?_
      simp -implicitDefEqProofs (disch := omega) only [seval, go_sem, h0, h1, h5]
      repeat (refine ⟨by first | omega | exact Keep.push _ _, ?_⟩)
      refine hK15 _ _ ?_; try (clear hK15; clear K15)
      refine TWp.ret ⟨.inr rfl, [_], ⟨rfl, trivial⟩, ?_, rfl⟩
      show TV.lit (.bool true) = _
      rw [decide_eq_true]
      rwa [List.take_of_length_le (by omega), List.take_of_length_le (by omega)] at htk

theorem c_godownref01_Bytes {S : TS} {g1 g2 : Tag} {a b : List (BitVec 8)} {K : TV → TS → Prop} (hK : K (.lit (.bool (decide (a = b)))) S) (ha : a.length ≤ 1000000 := by omega) : TCall env 35 [.sl g1 1 (dB a), .sl g2 1 (dB b)] S K :=
  (c_godownref01_Bytes_ok S g1 g2 a b ha).mono fun t S' ⟨h1, h2⟩ => by rw [h1, h2]; exact hK

set_option maxRecDepth 8000 in
theorem c_godownref01_Join_ok (S : TS) (ta tb : TV) (a b : List (BitVec 8)) (ha : a.length + b.length ≤ 1000000) (h1 : srcD S false 1 ta = some (dB a)) (h2 : srcD (S.push .lin) false 1 tb = some (dB b)) : TCall env 32 [ta, tb] S fun r S' => ∃ k, r = .sl (.own k) 1 (dB (a ++ b)) ∧ S.n ≤ k ∧ S'.objs k = .lin ∧ Keep S S' := by
  refine TCall.of 12 [.tmp 4] Tryd.func32 rfl rfl rfl rfl (by kernel_rfl) rfl ?_
  refine TWp.sr fun K0 hK0 => ?_
  simp -implicitDefEqProofs (disch := omega) only [seval, go_sem, h1, h2]
  repeat (refine ⟨by first | omega | exact Keep.push _ _, ?_⟩)
  refine hK0 _ _ ?_; try (clear hK0; clear K0)
  refine TWp.sr fun K1 hK1 => ?_
  simp -implicitDefEqProofs (disch := omega) only [seval, go_sem, h1, h2]
  repeat (refine ⟨by first | omega | exact Keep.push _ _, ?_⟩)
  refine hK1 _ _ ?_; try (clear hK1; clear K1)
  refine TWp.sr fun K2 hK2 => ?_
  simp -implicitDefEqProofs (disch := omega) only [seval, go_sem, h1, h2]
  repeat (refine ⟨by first | omega | exact Keep.push _ _, ?_⟩)
  refine hK2 _ _ ?_; try (clear hK2; clear K2)
  refine TWp.sr fun K3 hK3 => ?_
  simp -implicitDefEqProofs (disch := omega) only [seval, go_sem, h1, h2]
  repeat (refine ⟨by first | omega | exact Keep.push _ _, ?_⟩)
  refine hK3 _ _ ?_; try (clear hK3; clear K3)
  refine TWp.ret ⟨.inr rfl, [_], ⟨rfl, trivial⟩, _, ?_, ?_, push_self _ _, (Keep.push S _).push' _⟩
  · rw [dB_app]; rfl
  · simp only [TS.push_n]; omega

theorem c_Join_g {S : TS} {ta tb : TV} {a b : List (BitVec 8)} {K : TV → TS → Prop} (hK : K (.sl (.own S.n) 1 (dB (a ++ b))) (S.push .lin)) (h1 : srcD S false 1 ta = some (dB a)) (h2 : srcD (S.push .lin) false 1 tb = some (dB b)) (ha : a.length + b.length ≤ 1000000 := by omega) : TCall env 32 [ta, tb] S K :=
  (c_godownref01_Join_ok S ta tb a b ha h1 h2).row.mono fun t S' ⟨h1, h2⟩ => by rw [h1, h2]; exact hK
theorem c_godownref01_Join {S : TS} {g1 g2 : Tag} {a b : List (BitVec 8)} {K : TV → TS → Prop} (hK : K (.sl (.own S.n) 1 (dB (a ++ b))) (S.push .lin)) (ha : a.length + b.length ≤ 1000000 := by omega) : TCall env 32 [.sl g1 1 (dB a), .sl g2 1 (dB b)] S K :=
  c_Join_g hK rfl rfl ha

def tr (x : BitVec 32) (n : Nat) : BitVec 32 := x >>> n ||| x <<< (32 - n)
set_option maxRecDepth 8000 in
theorem c_godownref02_turned_ok (S : TS) (x : BitVec 32) (n : Nat) (hn : n ≤ 32) : TCall env 65 [.lit (w32 x), .lit (.int .i64 (n : Int))] S fun r S' => r = .lit (w32 (tr x n)) ∧ S' = S := by
  refine TCall.of 13 [.tmp 4] Tryd.func65 rfl rfl rfl rfl (by kernel_rfl) rfl ?_
  refine TWp.sr fun K0 hK0 => ?_
  simp -implicitDefEqProofs (disch := omega) only [seval, go_sem]
  repeat (refine ⟨by first | omega | exact Keep.push _ _, ?_⟩)
  refine hK0 _ _ ?_; try (clear hK0; clear K0)
  refine TWp.sd [(0, 0), (1, 0), (2, 0), (3, 0), (4, 0), (5, 0), (6, 0), (7, 0), (8, 0)] follows (by kernel_rfl) fun K1 hK1 => ?_
  simp -implicitDefEqProofs (disch := omega) only [seval, go_sem]
  repeat (refine ⟨by first | omega | exact Keep.push _ _, ?_⟩)
  refine hK1 _ _ ?_; try (clear hK1; clear K1)
  exact TWp.ret ⟨.inr rfl, [_], ⟨rfl, trivial⟩, rfl, rfl⟩

theorem c_godownref02_turned {S : TS} {x : BitVec 32} {n : Nat} {K : TV → TS → Prop} (hK : K (.lit (w32 (tr x (no_index (OfNat.ofNat n))))) S) (hn : OfNat.ofNat n ≤ 32 := by omega) : TCall env 65 [.lit (w32 x), .lit (.int .i64 (OfNat.ofNat n : Int))] S K :=
  (c_godownref02_turned_ok S x (OfNat.ofNat n) hn).mono fun t S' ⟨h1, h2⟩ => by rw [h1, h2]; exact hK


end Go.Proofs.YtiijiejncefpmaaDoor
namespace Go.Proofs.YtiijiejncefpmaaDoor
open Go.RowKit TL

def wideH (a b : BitVec 64) : BitVec 64 :=
  let mid := (a >>> 32) * (b % 4294967296#64) + ((a % 4294967296#64) * (b % 4294967296#64)) >>> 32
  (a >>> 32) * (b >>> 32) + mid >>> 32 + (mid % 4294967296#64 + (a % 4294967296#64) * (b >>> 32)) >>> 32
def ltI (a b : BitVec 64) : Bool := decide ((a.toNat : Int) < (b.toNat : Int))
def eqI (a b : BitVec 64) : Bool := decide ((a.toNat : Int) = (b.toNat : Int))
def zI (a : BitVec 64) : Bool := decide ((a.toNat : Int) = 0)
set_option maxRecDepth 8000 in
theorem c_godownref02_wide_ok (S : TS) (a b : BitVec 64) : TCall env 104 [.lit (w64 a), .lit (w64 b)] S fun r S' => r = .tup [.lit (w64 (wideH a b)), .lit (w64 (a * b))] ∧ S' = S := by
  refine TCall.of 46 [.tmp 4, .tmp 5] Tryd.func104 rfl rfl rfl rfl (by kernel_rfl) rfl ?_
  refine TWp.sr fun K0 hK0 => ?_
  simp (disch := omega) only [seval, go_sem]
  repeat (refine ⟨by omega, ?_⟩)
  refine hK0 _ _ ?_; try (clear hK0; clear K0)
  refine TWp.sr fun K1 hK1 => ?_
  simp (disch := omega) only [seval, go_sem]
  repeat (refine ⟨by omega, ?_⟩)
  refine hK1 _ _ ?_; try (clear hK1; clear K1)
  refine TWp.sr fun K2 hK2 => ?_
  simp (disch := omega) only [seval, go_sem]
  repeat (refine ⟨by omega, ?_⟩)
  refine hK2 _ _ ?_; try (clear hK2; clear K2)
  refine TWp.sr fun K3 hK3 => ?_
  simp (disch := omega) only [seval, go_sem]
  repeat (refine ⟨by omega, ?_⟩)
  refine hK3 _ _ ?_; try (clear hK3; clear K3)
  refine TWp.sr fun K4 hK4 => ?_
  simp (disch := omega) only [seval, go_sem]
  repeat (refine ⟨by omega, ?_⟩)
  refine hK4 _ _ ?_; try (clear hK4; clear K4)
  exact TWp.ret ⟨.inr rfl, [_, _], ⟨rfl, rfl, trivial⟩, rfl, rfl⟩

theorem c_godownref02_wide {S : TS} {a b : BitVec 64} {K : TV → TS → Prop} (hK : K (.tup [.lit (w64 (wideH a b)), .lit (w64 (a * b))]) S) : TCall env 104 [.lit (w64 a), .lit (w64 b)] S K :=
  (c_godownref02_wide_ok S a b).mono fun t S' ⟨h1, h2⟩ => by rw [h1, h2]; exact hK
def squareF (a n : BitVec 64) : Bool := ltI (wideH a a) n || (eqI (wideH a a) n && zI (a * a))
set_option maxRecDepth 8000 in
theorem c_godownref02_square_ok (S : TS) (a n : BitVec 64) : TCall env 85 [.lit (w64 a), .lit (w64 n)] S fun r S' => r = .lit (.bool (squareF a n)) ∧ S' = S := by
  refine TCall.of 25 [.tmp 4] Tryd.func85 rfl rfl rfl rfl (by kernel_rfl) rfl ?_
  refine TWp.sr fun K0 hK0 => ?_
  simp (disch := omega) only [seval, go_sem]
  repeat (refine ⟨by omega, ?_⟩)
  refine hK0 _ _ ?_; try (clear hK0; clear K0)
  refine TWp.sr fun K1 hK1 => ?_
  simp (disch := omega) only [seval, go_sem]
  repeat (refine ⟨by omega, ?_⟩)
  refine c_godownref02_wide ?_
  simp (disch := omega) only [seval, go_sem]
  repeat (refine ⟨by omega, ?_⟩)
  refine hK1 _ _ ?_; try (clear hK1; clear K1)
  refine TWp.sr fun K2 hK2 => ?_
  simp (disch := omega) only [seval, go_sem]
  repeat' (first | refine ⟨by omega, ?_⟩ | (refine brT_split (fun hb => ?_) (fun hb => ?_) <;> simp (disch := omega) only [seval, go_sem, hb]))
  all_goals
    refine hK2 _ _ ?_; try (clear hK2; clear K2)
    all_goals (refine TWp.ret ⟨.inr rfl, [_], ⟨rfl, trivial⟩, ?_, rfl⟩)
    all_goals (show TV.lit (.bool _) = _)
    all_goals (simp only [squareF, ltI, eqI, zI, decide_eq_true_eq, decide_true, decide_false, if_true, if_false, Bool.false_eq_true, Bool.true_or, Bool.false_or, Bool.true_and, Bool.false_and, *])

theorem c_godownref02_square {S : TS} {a n : BitVec 64} {K : TV → TS → Prop} (hK : K (.lit (.bool (squareF a n))) S) : TCall env 85 [.lit (w64 a), .lit (w64 n)] S K :=
  (c_godownref02_square_ok S a n).mono fun t S' ⟨h1, h2⟩ => by rw [h1, h2]; exact hK
def cubeF (a n : BitVec 64) : Bool :=
  let hi := wideH a a
  let lo := a * a
  let x := wideH lo a
  let y := lo * a
  let w := hi * a
  let mid := w + x
  let z := if ltI mid w then wideH hi a + 1#64 else wideH hi a
  let top := z <<< 32 ||| mid >>> 32
  let rest := mid % 4294967296#64 ||| y
  ltI top n || (eqI top n && zI rest)
set_option maxRecDepth 8000 in
theorem c_godownref02_cube_ok (S : TS) (a n : BitVec 64) : TCall env 84 [.lit (w64 a), .lit (w64 n)] S fun r S' => r = .lit (.bool (cubeF a n)) ∧ S' = S := by
  refine TCall.of 61 [.tmp 4] Tryd.func84 rfl rfl rfl rfl (by kernel_rfl) rfl ?_
  refine TWp.sr fun K0 hK0 => ?_
  simp (disch := omega) only [seval, go_sem]
  repeat (refine ⟨by omega, ?_⟩)
  refine hK0 _ _ ?_; try (clear hK0; clear K0)
  refine TWp.sr fun K1 hK1 => ?_
  simp (disch := omega) only [seval, go_sem]
  repeat (refine ⟨by omega, ?_⟩)
  refine c_godownref02_wide ?_
  simp (disch := omega) only [seval, go_sem]
  repeat (refine ⟨by omega, ?_⟩)
  refine hK1 _ _ ?_; try (clear hK1; clear K1)
  refine TWp.sr fun K2 hK2 => ?_
  simp (disch := omega) only [seval, go_sem]
  repeat (refine ⟨by omega, ?_⟩)
  refine c_godownref02_wide ?_
  simp (disch := omega) only [seval, go_sem]
  repeat (refine ⟨by omega, ?_⟩)
  refine hK2 _ _ ?_; try (clear hK2; clear K2)
  refine TWp.sr fun K3 hK3 => ?_
  simp (disch := omega) only [seval, go_sem]
  repeat (refine ⟨by omega, ?_⟩)
  refine c_godownref02_wide ?_
  simp (disch := omega) only [seval, go_sem]
  repeat (refine ⟨by omega, ?_⟩)
  refine hK3 _ _ ?_; try (clear hK3; clear K3)
  refine TWp.sr fun K4 hK4 => ?_
  simp (disch := omega) only [seval, go_sem]
  repeat (refine ⟨by omega, ?_⟩)
  refine hK4 _ _ ?_; try (clear hK4; clear K4)
  refine TWp.seq_k fun K5 hK5 => ?_
  refine TWp.sr fun K6 hK6 => ?_
  simp (disch := omega) only [seval, go_sem]
  repeat (refine ⟨by omega, ?_⟩)
  refine hK6 _ _ ?_; try (clear hK6; clear K6)
  refine TWp.cond rfl (fun hb => ?_) (fun hb => ?_)
  · try (replace hb := of_decide_eq_true hb)
    refine TWp.rk fun K7 hK7 => ?_
    simp (disch := omega) only [seval, go_sem]
    repeat (refine ⟨by omega, ?_⟩)
    refine hK7 _ _ ?_; try (clear hK7; clear K7)
    refine hK5 _ _ ?_; try (clear hK5; clear K5)
    refine TWp.sr fun K8 hK8 => ?_
    simp (disch := omega) only [seval, go_sem]
    repeat (refine ⟨by omega, ?_⟩)
    refine hK8 _ _ ?_; try (clear hK8; clear K8)
    refine TWp.sr fun K9 hK9 => ?_
    simp (disch := omega) only [seval, go_sem]
    repeat (refine ⟨by omega, ?_⟩)
    refine hK9 _ _ ?_; try (clear hK9; clear K9)
    refine TWp.sr fun K10 hK10 => ?_
    simp (disch := omega) only [seval, go_sem]
    repeat' (first | refine ⟨by omega, ?_⟩ | (refine brT_split (fun hb => ?_) (fun hb => ?_) <;> simp (disch := omega) only [seval, go_sem, hb]))
    all_goals
      refine hK10 _ _ ?_; try (clear hK10; clear K10)
      all_goals (refine TWp.ret ⟨.inr rfl, [_], ⟨rfl, trivial⟩, ?_, rfl⟩)
      all_goals (show TV.lit (.bool _) = _)
      all_goals (simp only [cubeF, ltI, eqI, zI, decide_eq_true_eq, decide_true, decide_false, if_true, if_false, Bool.false_eq_true, Bool.true_or, Bool.false_or, Bool.true_and, Bool.false_and, *])
  · try (replace hb := of_decide_eq_false hb)
    refine TWp.skip ?_
    refine hK5 _ _ ?_; try (clear hK5; clear K5)
    refine TWp.sr fun K11 hK11 => ?_
    simp (disch := omega) only [seval, go_sem]
    repeat (refine ⟨by omega, ?_⟩)
    refine hK11 _ _ ?_; try (clear hK11; clear K11)
    refine TWp.sr fun K12 hK12 => ?_
    simp (disch := omega) only [seval, go_sem]
    repeat (refine ⟨by omega, ?_⟩)
    refine hK12 _ _ ?_; try (clear hK12; clear K12)
    refine TWp.sr fun K13 hK13 => ?_
    simp (disch := omega) only [seval, go_sem]
    repeat' (first | refine ⟨by omega, ?_⟩ | (refine brT_split (fun hb => ?_) (fun hb => ?_) <;> simp (disch := omega) only [seval, go_sem, hb]))
    all_goals
      refine hK13 _ _ ?_; try (clear hK13; clear K13)
      all_goals (refine TWp.ret ⟨.inr rfl, [_], ⟨rfl, trivial⟩, ?_, rfl⟩)
      all_goals (show TV.lit (.bool _) = _)
      all_goals (simp only [cubeF, ltI, eqI, zI, decide_eq_true_eq, decide_true, decide_false, if_true, if_false, Bool.false_eq_true, Bool.true_or, Bool.false_or, Bool.true_and, Bool.false_and, *])

theorem c_godownref02_cube {S : TS} {a n : BitVec 64} {K : TV → TS → Prop} (hK : K (.lit (.bool (cubeF a n))) S) : TCall env 84 [.lit (w64 a), .lit (w64 n)] S K :=
  (c_godownref02_cube_ok S a n).mono fun t S' ⟨h1, h2⟩ => by rw [h1, h2]; exact hK

def rootUpto (f : BitVec 64 → BitVec 64 → Bool) (x : BitVec 64) : Nat → BitVec 64 → BitVec 64
  | 0, a => a
  | k + 1, a => rootUpto f x k (if f (a + 1#64 <<< k) x = true then a + 1#64 <<< k else a)
def rootF (f : BitVec 64 → BitVec 64 → Bool) (x : BitVec 64) : BitVec 32 := BitVec.setWidth 32 (rootUpto f x 37 0 % 4294967296#64)
set_option maxRecDepth 8000 in
theorem c_godownref02_root_cube_ok (S : TS) (x : BitVec 64) : TCall env 68 [.lit (w64 x), .lit (.bool true)] S fun r S' => r = .lit (w32 (rootF cubeF x)) ∧ S' = S := by
  refine TCall.of 35 [.tmp 4] Tryd.func68 rfl rfl rfl rfl (by kernel_rfl) rfl ?_
  refine TWp.sr fun K0 hK0 => ?_
  simp (disch := omega) only [seval, go_sem]
  repeat (refine ⟨by omega, ?_⟩)
  refine hK0 _ _ ?_; try (clear hK0; clear K0)
  refine TWp.sr fun K1 hK1 => ?_
  simp (disch := omega) only [seval, go_sem]
  repeat (refine ⟨by omega, ?_⟩)
  refine hK1 _ _ ?_; try (clear hK1; clear K1)
  refine TWp.seq_k fun K2 hK2 => ?_
  refine TWp.sr fun K3 hK3 => ?_
  simp (disch := omega) only [seval, go_sem]
  repeat (refine ⟨by omega, ?_⟩)
  refine hK3 _ _ ?_; try (clear hK3; clear K3)
  refine TWp.block ?_
  refine TWp.loop (fun n T S' => ∃ a, rootUpto cubeF x n a = rootUpto cubeF x 37 0 ∧ n ≤ 37 ∧ T 0 = .lit (w64 x) ∧ T 1 = .lit (.bool true) ∧ T 5 = .lit (w64 a) ∧ T 6 = .lit (.int .i64 ((n : Int) - 1)) ∧ S' = S) (37) ?_ ?_
  · exact ⟨0, rfl, by omega, rfl, rfl, rfl, rfl, rfl⟩
  rintro n T S' ⟨a, hr, hn, h0, h1, h5, h6, rfl⟩
  refine TWp.seq_k fun K4 hK4 => ?_
  refine TWp.sr fun K5 hK5 => ?_
  simp (disch := omega) only [seval, go_sem, h0, h1, h5, h6]
  repeat (refine ⟨by omega, ?_⟩)
  refine hK5 _ _ ?_; try (clear hK5; clear K5)
  refine TWp.cond rfl (fun hb => ?_) (fun hb => ?_)
  · try (replace hb := of_decide_eq_true hb)
    refine TWp.skip ?_
    refine hK4 _ _ ?_; try (clear hK4; clear K4)
    refine TWp.seq_k fun K6 hK6 => ?_
    refine TWp.block ?_
    refine TWp.sr fun K7 hK7 => ?_
    simp (disch := omega) only [seval, go_sem, h0, h1, h5, h6]
    repeat (refine ⟨by omega, ?_⟩)
    refine hK7 _ _ ?_; try (clear hK7; clear K7)
    refine TWp.sr fun K8 hK8 => ?_
    simp (disch := omega) only [seval, go_sem, h0, h1, h5, h6]
    repeat (refine ⟨by omega, ?_⟩)
    refine c_godownref02_cube ?_
    simp (disch := omega) only [seval, go_sem, h0, h1, h5, h6]
    repeat' (first | refine ⟨by omega, ?_⟩ | (refine brT_split (fun hb => ?_) (fun hb => ?_) <;> simp (disch := omega) only [seval, go_sem, hb, h0, h1, h5, h6]))
    all_goals
      refine hK8 _ _ ?_; try (clear hK8; clear K8)
      refine TWp.cond rfl (fun hb => ?_) (fun hb => ?_)
      · try (replace hb := of_decide_eq_true hb)
        try (exact absurd hb (by decide))
        all_goals
          refine TWp.rk fun K9 hK9 => ?_
          simp (disch := omega) only [seval, go_sem, h0, h1, h5, h6]
          repeat (refine ⟨by omega, ?_⟩)
          refine hK9 _ _ ?_; try (clear hK9; clear K9)
          refine hK6 _ _ ?_; try (clear hK6; clear K6)
          refine TWp.rk fun K10 hK10 => ?_
          simp (disch := omega) only [seval, go_sem, h0, h1, h5, h6]
          repeat (refine ⟨by omega, ?_⟩)
          refine hK10 _ _ ?_; try (clear hK10; clear K10)
          obtain ⟨m, rfl⟩ : ∃ m, n = m + 1 := ⟨n - 1, by omega⟩
          refine ⟨m, by omega, _, ?_, by omega, h0, h1, rfl, ?_, rfl⟩
          · rw [← hr, rootUpto, if_pos (by assumption)]; rfl
          · simp [upd]
      · try (replace hb := of_decide_eq_false hb)
        try (exact absurd hb (by decide))
        all_goals
          refine TWp.skip ?_
          refine hK6 _ _ ?_; try (clear hK6; clear K6)
          refine TWp.rk fun K11 hK11 => ?_
          simp (disch := omega) only [seval, go_sem, h0, h1, h5, h6]
          repeat (refine ⟨by omega, ?_⟩)
          refine hK11 _ _ ?_; try (clear hK11; clear K11)
          obtain ⟨m, rfl⟩ : ∃ m, n = m + 1 := ⟨n - 1, by omega⟩
          refine ⟨m, by omega, _, ?_, by omega, h0, h1, h5, ?_, rfl⟩
          · rw [← hr, rootUpto, if_neg (by rw [Bool.not_eq_true]; assumption)]
          · simp [upd]
  · try (replace hb := of_decide_eq_false hb)
    refine TWp.exit ?_
    refine hK2 _ _ ?_; try (clear hK2; clear K2)
    refine TWp.sr fun K12 hK12 => ?_
    simp (disch := omega) only [seval, go_sem, h0, h1, h5, h6]
    repeat (refine ⟨by omega, ?_⟩)
    refine hK12 _ _ ?_; try (clear hK12; clear K12)
    obtain rfl : n = 0 := by omega
    refine TWp.ret ⟨.inr rfl, [_], ⟨rfl, trivial⟩, ?_, rfl⟩
    rw [rootF, ← hr]
    rfl

theorem c_godownref02_root_cube {S : TS} {x : BitVec 64} {K : TV → TS → Prop} (hK : K (.lit (w32 (rootF cubeF x))) S) : TCall env 68 [.lit (w64 x), .lit (.bool true)] S K :=
  (c_godownref02_root_cube_ok S x).mono fun t S' ⟨h1, h2⟩ => by rw [h1, h2]; exact hK
set_option maxRecDepth 8000 in
theorem c_godownref02_root_square_ok (S : TS) (x : BitVec 64) : TCall env 68 [.lit (w64 x), .lit (.bool false)] S fun r S' => r = .lit (w32 (rootF squareF x)) ∧ S' = S := by
  refine TCall.of 35 [.tmp 4] Tryd.func68 rfl rfl rfl rfl (by kernel_rfl) rfl ?_
  refine TWp.sr fun K0 hK0 => ?_
  simp (disch := omega) only [seval, go_sem]
  repeat (refine ⟨by omega, ?_⟩)
  refine hK0 _ _ ?_; try (clear hK0; clear K0)
  refine TWp.sr fun K1 hK1 => ?_
  simp (disch := omega) only [seval, go_sem]
  repeat (refine ⟨by omega, ?_⟩)
  refine hK1 _ _ ?_; try (clear hK1; clear K1)
  refine TWp.seq_k fun K2 hK2 => ?_
  refine TWp.sr fun K3 hK3 => ?_
  simp (disch := omega) only [seval, go_sem]
  repeat (refine ⟨by omega, ?_⟩)
  refine hK3 _ _ ?_; try (clear hK3; clear K3)
  refine TWp.block ?_
  refine TWp.loop (fun n T S' => ∃ a, rootUpto squareF x n a = rootUpto squareF x 37 0 ∧ n ≤ 37 ∧ T 0 = .lit (w64 x) ∧ T 1 = .lit (.bool false) ∧ T 5 = .lit (w64 a) ∧ T 6 = .lit (.int .i64 ((n : Int) - 1)) ∧ S' = S) (37) ?_ ?_
  · exact ⟨0, rfl, by omega, rfl, rfl, rfl, rfl, rfl⟩
  rintro n T S' ⟨a, hr, hn, h0, h1, h5, h6, rfl⟩
  refine TWp.seq_k fun K4 hK4 => ?_
  refine TWp.sr fun K5 hK5 => ?_
  simp (disch := omega) only [seval, go_sem, h0, h1, h5, h6]
  repeat (refine ⟨by omega, ?_⟩)
  refine hK5 _ _ ?_; try (clear hK5; clear K5)
  refine TWp.cond rfl (fun hb => ?_) (fun hb => ?_)
  · try (replace hb := of_decide_eq_true hb)
    refine TWp.skip ?_
    refine hK4 _ _ ?_; try (clear hK4; clear K4)
    refine TWp.seq_k fun K6 hK6 => ?_
    refine TWp.block ?_
    refine TWp.sr fun K7 hK7 => ?_
    simp (disch := omega) only [seval, go_sem, h0, h1, h5, h6]
    repeat (refine ⟨by omega, ?_⟩)
    refine hK7 _ _ ?_; try (clear hK7; clear K7)
    refine TWp.sr fun K8 hK8 => ?_
    simp (disch := omega) only [seval, go_sem, h0, h1, h5, h6]
    repeat (refine ⟨by omega, ?_⟩)
    refine c_godownref02_square ?_
    simp (disch := omega) only [seval, go_sem, h0, h1, h5, h6]
    repeat' (first | refine ⟨by omega, ?_⟩ | (refine brT_split (fun hb => ?_) (fun hb => ?_) <;> simp (disch := omega) only [seval, go_sem, hb, h0, h1, h5, h6]))
    all_goals
      refine hK8 _ _ ?_; try (clear hK8; clear K8)
      refine TWp.cond rfl (fun hb => ?_) (fun hb => ?_)
      · try (replace hb := of_decide_eq_true hb)
        try (exact absurd hb (by decide))
        all_goals
          refine TWp.rk fun K9 hK9 => ?_
          simp (disch := omega) only [seval, go_sem, h0, h1, h5, h6]
          repeat (refine ⟨by omega, ?_⟩)
          refine hK9 _ _ ?_; try (clear hK9; clear K9)
          refine hK6 _ _ ?_; try (clear hK6; clear K6)
          refine TWp.rk fun K10 hK10 => ?_
          simp (disch := omega) only [seval, go_sem, h0, h1, h5, h6]
          repeat (refine ⟨by omega, ?_⟩)
          refine hK10 _ _ ?_; try (clear hK10; clear K10)
          obtain ⟨m, rfl⟩ : ∃ m, n = m + 1 := ⟨n - 1, by omega⟩
          refine ⟨m, by omega, _, ?_, by omega, h0, h1, rfl, ?_, rfl⟩
          · rw [← hr, rootUpto, if_pos (by assumption)]; rfl
          · simp [upd]
      · try (replace hb := of_decide_eq_false hb)
        try (exact absurd hb (by decide))
        all_goals
          refine TWp.skip ?_
          refine hK6 _ _ ?_; try (clear hK6; clear K6)
          refine TWp.rk fun K11 hK11 => ?_
          simp (disch := omega) only [seval, go_sem, h0, h1, h5, h6]
          repeat (refine ⟨by omega, ?_⟩)
          refine hK11 _ _ ?_; try (clear hK11; clear K11)
          obtain ⟨m, rfl⟩ : ∃ m, n = m + 1 := ⟨n - 1, by omega⟩
          refine ⟨m, by omega, _, ?_, by omega, h0, h1, h5, ?_, rfl⟩
          · rw [← hr, rootUpto, if_neg (by rw [Bool.not_eq_true]; assumption)]
          · simp [upd]
  · try (replace hb := of_decide_eq_false hb)
    refine TWp.exit ?_
    refine hK2 _ _ ?_; try (clear hK2; clear K2)
    refine TWp.sr fun K12 hK12 => ?_
    simp (disch := omega) only [seval, go_sem, h0, h1, h5, h6]
    repeat (refine ⟨by omega, ?_⟩)
    refine hK12 _ _ ?_; try (clear hK12; clear K12)
    obtain rfl : n = 0 := by omega
    refine TWp.ret ⟨.inr rfl, [_], ⟨rfl, trivial⟩, ?_, rfl⟩
    rw [rootF, ← hr]
    rfl

theorem c_godownref02_root_square {S : TS} {x : BitVec 64} {K : TV → TS → Prop} (hK : K (.lit (w32 (rootF squareF x))) S) : TCall env 68 [.lit (w64 x), .lit (.bool false)] S K :=
  (c_godownref02_root_square_ok S x).mono fun t S' ⟨h1, h2⟩ => by rw [h1, h2]; exact hK

end Go.Proofs.YtiijiejncefpmaaDoor
namespace Go.Proofs.YtiijiejncefpmaaDoor
open Go.RowKit TL

def primeL : List Nat := [2, 3, 5, 7, 11, 13, 17, 19, 23, 29, 31, 37, 41, 43, 47, 53, 59, 61, 67, 71, 73, 79, 83, 89, 97, 101, 103, 107, 109, 113, 127, 131, 137, 139, 149, 151, 157, 163, 167, 173, 179, 181, 191, 193, 197, 199, 211, 223, 227, 229, 233, 239, 241, 251, 257, 263, 269, 271, 277, 281, 283, 293, 307, 311]
def primeB : List (BitVec 64) := primeL.map (BitVec.ofNat 64)
def cnt (k : Nat) : Nat := (primeL.filter fun y => decide (y < k + 2)).length
def pr (k : Nat) : List (BitVec 64) := primeB.take (cnt k)
def isT (x : BitVec 64) (l : List (BitVec 64)) : Bool := l.all fun y => decide (¬ ((x % y).toNat : Int) = 0)
theorem pr_step : ∀ k, k < 310 → pr (k + 1) = if isT (BitVec.ofNat 64 (k + 2)) (pr k) = true then pr k ++ [BitVec.ofNat 64 (k + 2)] else pr k := by decide +kernel
theorem pr_len : ∀ k, k < 310 → (pr k).length < 64 := by decide +kernel
theorem pr_all : pr 310 = primeB := by decide +kernel
theorem prB_pos : ∀ i, i < 64 → 0 < (primeB.getD i 0).toNat := by decide +kernel
theorem primeB_len : primeB.length = 64 := rfl
theorem pr_get (k i : Nat) (hi : i < (pr k).length) : (pr k).getD i 0 = primeB.getD i 0 := by
  unfold pr at hi ⊢
  rw [List.length_take] at hi
  simp only [List.getD_eq_getElem?_getD]
  rw [List.getElem?_take_of_lt (by omega)]
theorem pr_pos (k i : Nat) : i < (pr k).length → 0 < ((pr k).getD i 0#64).toNat := by
  intro hi
  have h1 := pr_get k i hi
  have h2 : (pr k).length ≤ 64 := by unfold pr; rw [List.length_take, primeB_len]; omega
  have h3 := prB_pos i (by omega)
  rw [show (0#64) = (0 : BitVec 64) from rfl, h1]; exact h3
theorem pr_lt (k : Nat) : k ≤ 310 → (pr k).length < 64 → k < 310 := by
  intro h1 h2
  rcases Nat.lt_or_ge k 310 with h | h
  · exact h
  · have : k = 310 := by omega
    subst this
    rw [pr_all] at h2
    exact absurd h2 (by decide)
theorem x_succ (k : Nat) : BitVec.ofNat 64 (k + 2) + 1#64 = BitVec.ofNat 64 (k + 1 + 2) := by
  apply BitVec.eq_of_toNat_eq; simp
theorem isT_snoc (x y : BitVec 64) (l : List (BitVec 64)) : isT x (l ++ [y]) = (isT x l && decide (¬ ((x % y).toNat : Int) = 0)) := by simp [isT]

set_option maxRecDepth 8000 in
theorem c_godownref02_primes_ok (S : TS) : TCall env 67 [.lit (.int .i64 64)] S fun r S' => ∃ t, r = .sl (.own t) 1 (dQ primeB) ∧ S.n ≤ t ∧ S'.objs t = .lin ∧ Keep S S' := by
  refine TCall.of 35 [.tmp 2] Tryd.func67 rfl rfl rfl rfl (by kernel_rfl) rfl ?_
  refine TWp.sr fun K0 hK0 => ?_
  simp (disch := omega) only [seval, go_sem]
  repeat (refine ⟨by omega, ?_⟩)
  refine hK0 _ _ ?_; try (clear hK0; clear K0)
  refine TWp.sr fun K1 hK1 => ?_
  simp (disch := omega) only [seval, go_sem]
  repeat (refine ⟨by omega, ?_⟩)
  refine hK1 _ _ ?_; try (clear hK1; clear K1)
  refine TWp.seq_k fun K2 hK2 => ?_
  refine TWp.sr fun K3 hK3 => ?_
  simp (disch := omega) only [seval, go_sem]
  repeat (refine ⟨by omega, ?_⟩)
  refine hK3 _ _ ?_; try (clear hK3; clear K3)
  refine TWp.block ?_
  refine TWp.asRow 3 1 rfl (.inl rfl) ?_
  refine TWp.loop (fun n T S' => ∃ k t, n + k = 310 ∧ T 0 = .lit (.int .i64 64) ∧ T 3 = .sl (.own t) 1 (dQ (pr k)) ∧ T 4 = .lit (w64 (BitVec.ofNat 64 (k + 2))) ∧ S'.objs t = .lin ∧ S.n ≤ t ∧ Keep S S') (310) ?_ ?_
  · exact ⟨0, _, rfl, rfl, rfl, rfl, push_self _ _, Nat.le_refl _, Keep.push S _⟩
  rintro n1 T S1 ⟨k, t, hn, h0, h3, h4, ho, ht, hkeep⟩
  refine TWp.seq_k fun K4 hK4 => ?_
  refine TWp.sr fun K5 hK5 => ?_
  simp (disch := omega) only [seval, go_sem, h0, h3, h4, ho]
  repeat (refine ⟨by omega, ?_⟩)
  refine hK5 _ _ ?_; try (clear hK5; clear K5)
  refine TWp.cond rfl (fun hb => ?_) (fun hb => ?_)
  · try (replace hb := of_decide_eq_true hb)
    refine TWp.skip ?_
    refine hK4 _ _ ?_; try (clear hK4; clear K4)
    refine TWp.seq_k fun K6 hK6 => ?_
    refine TWp.block ?_
    refine TWp.sr fun K7 hK7 => ?_
    simp (disch := omega) only [seval, go_sem, h0, h3, h4, ho]
    repeat (refine ⟨by omega, ?_⟩)
    refine hK7 _ _ ?_; try (clear hK7; clear K7)
    refine TWp.seq_k fun K8 hK8 => ?_
    refine TWp.sr fun K9 hK9 => ?_
    simp (disch := omega) only [seval, go_sem, h0, h3, h4, ho]
    repeat (refine ⟨by omega, ?_⟩)
    refine hK9 _ _ ?_; try (clear hK9; clear K9)
    refine TWp.block ?_
    refine TWp.loop (fun n T S' => ∃ i, n + i = (pr k).length ∧ T 0 = .lit (.int .i64 64) ∧ T 3 = .sl (.own t) 1 (dQ (pr k)) ∧ T 4 = .lit (w64 (BitVec.ofNat 64 (k + 2))) ∧ T 5 = .lit (.bool (isT (BitVec.ofNat 64 (k + 2)) ((pr k).take i))) ∧ T 6 = .lit (.int .i64 (i : Int)) ∧ S' = S1) ((pr k).length) ?_ ?_
    · exact ⟨0, rfl, h0, h3, h4, rfl, rfl, rfl⟩
    rintro n T S' ⟨i, hi, h0, h3, h4, h5, h6, rfl⟩
    have hp := pr_pos k i
    have hkl := pr_lt k (by omega) (by omega)
    refine TWp.seq_k fun K10 hK10 => ?_
    refine TWp.sr fun K11 hK11 => ?_
    simp (disch := omega) only [seval, go_sem, h0, h3, h4, h5, h6, ho]
    repeat (refine ⟨by omega, ?_⟩)
    refine hK11 _ _ ?_; try (clear hK11; clear K11)
    refine TWp.cond rfl (fun hb => ?_) (fun hb => ?_)
    · try (replace hb := of_decide_eq_true hb)
      refine TWp.skip ?_
      refine hK10 _ _ ?_; try (clear hK10; clear K10)
      refine TWp.seq_k fun K12 hK12 => ?_
      refine TWp.block ?_
      refine TWp.rk fun K13 hK13 => ?_
      simp (disch := omega) only [seval, go_sem, h0, h3, h4, h5, h6, ho]
      repeat' (first | refine ⟨by omega, ?_⟩ | (refine brT_split (fun hb => ?_) (fun hb => ?_) <;> simp (disch := omega) only [seval, go_sem, hb, h0, h3, h4, h5, h6, ho]))
      all_goals
        refine hK13 _ _ ?_; try (clear hK13; clear K13)
        refine hK12 _ _ ?_; try (clear hK12; clear K12)
        refine TWp.rk fun K14 hK14 => ?_
        simp (disch := omega) only [seval, go_sem, h0, h3, h4, h5, h6, ho]
        repeat (refine ⟨by omega, ?_⟩)
        refine hK14 _ _ ?_; try (clear hK14; clear K14)
        have hi' : i < (pr k).length := by omega
        refine ⟨n - 1, by omega, i + 1, by omega, h0, h3, h4, ?_, rfl, rfl⟩
        rw [take_succ_getD 0#64 hi', isT_snoc]
        first
          | (rw [hb, Bool.true_and]; rfl)
          | (rw [hb, Bool.false_and]; rfl)
    · try (replace hb := of_decide_eq_false hb)
      refine TWp.exit ?_
      refine hK8 _ _ ?_; try (clear hK8; clear K8)
      refine TWp.sr fun K15 hK15 => ?_
      simp (disch := omega) only [seval, go_sem, h0, h3, h4, h5, h6, ho]
      repeat (refine ⟨by omega, ?_⟩)
      refine hK15 _ _ ?_; try (clear hK15; clear K15)
      refine TWp.cond rfl (fun hb => ?_) (fun hb => ?_)
      · try (replace hb := of_decide_eq_true hb)
        refine TWp.rk fun K16 hK16 => ?_
        simp (disch := omega) only [seval, go_sem, h0, h3, h4, h5, h6, ho]
        repeat (refine ⟨by omega, ?_⟩)
        refine hK16 _ _ ?_; try (clear hK16; clear K16)
        refine hK6 _ _ ?_; try (clear hK6; clear K6)
        refine TWp.rk fun K17 hK17 => ?_
        simp (disch := omega) only [seval, go_sem, h0, h3, h4, h5, h6, ho]
        repeat (refine ⟨by omega, ?_⟩)
        refine hK17 _ _ ?_; try (clear hK17; clear K17)
        obtain rfl : i = (pr k).length := by omega
        have hbb : isT (BitVec.ofNat 64 (k + 2)) (pr k) = true := ‹isT (BitVec.ofNat 64 (k + 2)) (pr k) = true›
        refine ⟨n1 - 1, by omega, k + 1, _, by omega, h0, ?_, ?_, push_self _ _, hkeep.1, (hkeep.set ht _).push' _⟩
        · rw [pr_step k hkl, if_pos hbb, dQ_app]; rfl
        · show TV.lit (w64 (_ + 1#64)) = _
          rw [x_succ]
      · try (replace hb := of_decide_eq_false hb)
        refine TWp.skip ?_
        refine hK6 _ _ ?_; try (clear hK6; clear K6)
        refine TWp.rk fun K18 hK18 => ?_
        simp (disch := omega) only [seval, go_sem, h0, h3, h4, h5, h6, ho]
        repeat (refine ⟨by omega, ?_⟩)
        refine hK18 _ _ ?_; try (clear hK18; clear K18)
        obtain rfl : i = (pr k).length := by omega
        have hbb : isT (BitVec.ofNat 64 (k + 2)) (pr k) = false := ‹isT (BitVec.ofNat 64 (k + 2)) (pr k) = false›
        refine ⟨n1 - 1, by omega, k + 1, t, by omega, h0, ?_, ?_, ho, ht, hkeep⟩
        · rw [pr_step k hkl, if_neg (by rw [hbb]; exact Bool.false_ne_true)]; exact h3
        · show TV.lit (w64 (_ + 1#64)) = _
          rw [x_succ]
  · try (replace hb := of_decide_eq_false hb)
    refine TWp.exit ?_
    refine hK2 _ _ ?_; try (clear hK2; clear K2)
    refine TWp.sr fun K19 hK19 => ?_
    simp (disch := omega) only [seval, go_sem, h0, h3, h4, ho]
    repeat (refine ⟨by omega, ?_⟩)
    refine hK19 _ _ ?_; try (clear hK19; clear K19)
    have hk : k = 310 := by
      have := pr_len k
      omega
    subst hk
    exact TWp.ret ⟨.inr rfl, [_], ⟨rfl, trivial⟩, t, by rw [← pr_all]; rfl, ht, ho, hkeep⟩

theorem c_godownref02_primes {S : TS} {K : TV → TS → Prop} (hK : K (.sl (.own S.n) 1 (dQ primeB)) (S.push .lin)) : TCall env 67 [.lit (.int .i64 64)] S K :=
  (c_godownref02_primes_ok S).row.mono fun t S' ⟨h1, h2⟩ => by rw [h1, h2]; exact hK

theorem tab_snoc (f : BitVec 64 → BitVec 32) (l : List (BitVec 64)) (i : Nat) (h : i < l.length) : gD ((l.take (i + 1)).map f) = gD ((l.take i).map f) ++ [.lit (w32 (f (l.getD i 0#64)))] := by
  rw [take_succ_getD 0#64 h, List.map_append, gD_app]; rfl
theorem take8_get (i : Nat) (h : i < 8) : (primeB.take 8).getD i 0#64 = primeB.getD i 0#64 := by
  simp only [List.getD_eq_getElem?_getD]
  rw [List.getElem?_take_of_lt h]
theorem p8_len : (primeB.take 8).length = 8 := rfl
attribute [irreducible] primeB
def tabH : List (BitVec 32) := (primeB.take 8).map (rootF squareF)
def tabK : List (BitVec 32) := primeB.map (rootF cubeF)
set_option maxRecDepth 8000 in
theorem c_godownref02_Tables_ok (S : TS) : TCall env 44 [] S fun r S' => ∃ t1 t2, r = .tup [.sl (.own t1) 1 (gD tabH), .sl (.own t2) 1 (gD tabK)] ∧ S.n ≤ t1 ∧ S.n ≤ t2 ∧ t1 ≠ t2 ∧ S'.objs t1 = .lin ∧ S'.objs t2 = .lin ∧ Keep S S' := by
  have hpl := primeB_len
  have h8l := p8_len
  refine TCall.of 31 [.tmp 0, .tmp 1] Tryd.func44 rfl rfl rfl rfl (by kernel_rfl) rfl ?_
  refine TWp.sr fun K0 hK0 => ?_
  simp (disch := omega) only [seval, go_sem]
  repeat (refine ⟨by omega, ?_⟩)
  refine hK0 _ _ ?_; try (clear hK0; clear K0)
  refine TWp.sr fun K1 hK1 => ?_
  simp (disch := omega) only [seval, go_sem]
  repeat (refine ⟨by omega, ?_⟩)
  refine c_godownref02_primes ?_
  simp (disch := omega) only [seval, go_sem]
  repeat (refine ⟨by omega, ?_⟩)
  refine hK1 _ _ ?_; try (clear hK1; clear K1)
  refine TWp.sr fun K2 hK2 => ?_
  simp (disch := omega) only [seval, go_sem]
  repeat (refine ⟨by omega, ?_⟩)
  refine hK2 _ _ ?_; try (clear hK2; clear K2)
  refine TWp.seq_k fun K3 hK3 => ?_
  refine TWp.sr fun K4 hK4 => ?_
  simp (disch := omega) only [seval, go_sem]
  repeat (refine ⟨by omega, ?_⟩)
  refine hK4 _ _ ?_; try (clear hK4; clear K4)
  refine TWp.block ?_
  refine TWp.asRow 3 1 rfl (.inl rfl) ?_
  refine TWp.asRow 4 1 rfl (.inl rfl) ?_
  refine TWp.loop (fun n T S' => ∃ i t1 t2 g, n + i = 64 ∧ T 2 = .sl g 1 (dQ primeB) ∧ T 3 = .sl (.own t1) 1 (gD (((primeB.take 8).take i).map (rootF squareF))) ∧ T 4 = .sl (.own t2) 1 (gD ((primeB.take i).map (rootF cubeF))) ∧ T 5 = .lit (.int .i64 (i : Int)) ∧ S.n ≤ t1 ∧ S.n ≤ t2 ∧ t1 ≠ t2 ∧ S'.objs t1 = .lin ∧ S'.objs t2 = .lin ∧ Keep S S' ∧ t1 < S'.n ∧ t2 < S'.n) (64) ?_ ?_
  · refine ⟨0, _, _, _, rfl, rfl, rfl, rfl, rfl, ?_, ?_, ?_, ?_, push_self _ _, ?_, ?_, ?_⟩
    all_goals first | exact ((Keep.push S _).push' _).push' _ | (simp only [TS.push_n]; omega) | (simp (disch := omega) only [seval, go_sem])
  rintro n T S' ⟨i, t1, t2, g, hn, h2, h3, h4, h5, g1, g2, g3, o1, o2, hkeep, b1, b2⟩
  have hl1 : (((primeB.take 8).take i).map (rootF squareF)).length ≤ 8 := by simp; omega
  have hl2 : ((primeB.take i).map (rootF cubeF)).length ≤ 64 := by simp; omega
  refine TWp.seq_k fun K5 hK5 => ?_
  refine TWp.sr fun K6 hK6 => ?_
  simp (disch := omega) only [seval, go_sem, h2, h3, h4, h5, o1, o2]
  repeat (refine ⟨by omega, ?_⟩)
  refine hK6 _ _ ?_; try (clear hK6; clear K6)
  refine TWp.cond rfl (fun hb => ?_) (fun hb => ?_)
  · try (replace hb := of_decide_eq_true hb)
    refine TWp.skip ?_
    refine hK5 _ _ ?_; try (clear hK5; clear K5)
    refine TWp.seq_k fun K7 hK7 => ?_
    refine TWp.block ?_
    refine TWp.seq_k fun K8 hK8 => ?_
    refine TWp.sr fun K9 hK9 => ?_
    simp (disch := omega) only [seval, go_sem, h2, h3, h4, h5, o1, o2]
    repeat (refine ⟨by omega, ?_⟩)
    refine hK9 _ _ ?_; try (clear hK9; clear K9)
    refine TWp.cond rfl (fun hb => ?_) (fun hb => ?_)
    · try (replace hb := of_decide_eq_true hb)
      refine TWp.rk fun K10 hK10 => ?_
      simp (disch := omega) only [seval, go_sem, h2, h3, h4, h5, o1, o2]
      repeat (refine ⟨by omega, ?_⟩)
      refine c_godownref02_root_square ?_
      simp (disch := omega) only [seval, go_sem, h2, h3, h4, h5, o1, o2]
      repeat (refine ⟨by omega, ?_⟩)
      refine hK10 _ _ ?_; try (clear hK10; clear K10)
      refine hK8 _ _ ?_; try (clear hK8; clear K8)
      refine TWp.rk fun K11 hK11 => ?_
      simp (disch := omega) only [seval, go_sem, h2, h3, h4, h5, o1, o2]
      repeat (refine ⟨by omega, ?_⟩)
      refine c_godownref02_root_cube ?_
      simp (disch := omega) only [seval, go_sem, h2, h3, h4, h5, o1, o2]
      repeat (refine ⟨by omega, ?_⟩)
      refine hK11 _ _ ?_; try (clear hK11; clear K11)
      refine hK7 _ _ ?_; try (clear hK7; clear K7)
      refine TWp.rk fun K12 hK12 => ?_
      simp (disch := omega) only [seval, go_sem, h2, h3, h4, h5, o1, o2]
      repeat (refine ⟨by omega, ?_⟩)
      refine hK12 _ _ ?_; try (clear hK12; clear K12)
      refine ⟨n - 1, by omega, i + 1, S'.n, S'.n + 1, g, by omega, h2, ?_, ?_, rfl, ?_, ?_, ?_, ?_, push_self _ _, ((((hkeep.set g1 _).set g2 _).push' _).push' _), ?_, ?_⟩
      all_goals first
        | ((try simp only [TS.push_n, TS.set_n]); have := hkeep.1; omega)
        | (simp (disch := omega) only [seval, go_sem]; done)
        | exact congrArg (TV.sl _ 1) (by rw [tab_snoc _ _ _ (by omega), take8_get i (by omega)])
        | exact congrArg (TV.sl _ 1) (tab_snoc _ _ _ (by omega)).symm
    · try (replace hb := of_decide_eq_false hb)
      refine TWp.skip ?_
      refine hK8 _ _ ?_; try (clear hK8; clear K8)
      refine TWp.rk fun K13 hK13 => ?_
      simp (disch := omega) only [seval, go_sem, h2, h3, h4, h5, o1, o2]
      repeat (refine ⟨by omega, ?_⟩)
      refine c_godownref02_root_cube ?_
      simp (disch := omega) only [seval, go_sem, h2, h3, h4, h5, o1, o2]
      repeat (refine ⟨by omega, ?_⟩)
      refine hK13 _ _ ?_; try (clear hK13; clear K13)
      refine hK7 _ _ ?_; try (clear hK7; clear K7)
      refine TWp.rk fun K14 hK14 => ?_
      simp (disch := omega) only [seval, go_sem, h2, h3, h4, h5, o1, o2]
      repeat (refine ⟨by omega, ?_⟩)
      refine hK14 _ _ ?_; try (clear hK14; clear K14)
      refine ⟨n - 1, by omega, i + 1, t1, S'.n, g, by omega, h2, ?_, ?_, rfl, ?_, ?_, ?_, ?_, push_self _ _, ((hkeep.set g2 _).push' _), ?_, ?_⟩
      all_goals first
        | ((try simp only [TS.push_n, TS.set_n]); have := hkeep.1; omega)
        | (simp (disch := omega) only [seval, go_sem, o1]; done)
        | exact congrArg (TV.sl _ 1) (tab_snoc _ _ _ (by omega)).symm
        | exact h3.trans (by rw [List.take_of_length_le (i := i) (by omega), List.take_of_length_le (i := i + 1) (by omega)])
  · try (replace hb := of_decide_eq_false hb)
    refine TWp.exit ?_
    refine hK3 _ _ ?_; try (clear hK3; clear K3)
    refine TWp.sr fun K15 hK15 => ?_
    simp (disch := omega) only [seval, go_sem, h2, h3, h4, h5, o1, o2]
    repeat (refine ⟨by omega, ?_⟩)
    refine hK15 _ _ ?_; try (clear hK15; clear K15)
    obtain rfl : i = 64 := by omega
    refine TWp.ret ⟨.inr rfl, [_, _], ⟨rfl, rfl, trivial⟩, t1, t2, ?_, g1, g2, g3, o1, o2, hkeep⟩
    show TV.tup [.sl (.own t1) 1 _, .sl (.own t2) 1 _] = _
    rw [tabH, tabK, List.take_of_length_le (i := 64) (by omega)]

end Go.Proofs.YtiijiejncefpmaaDoor
namespace Go.Proofs.YtiijiejncefpmaaDoor
open Go.RowKit TL

theorem c_godownref02_Tables {S : TS} {K : TV → TS → Prop} (hK : K (.tup [.sl .none 1 (gD tabH), .sl .none 1 (gD tabK)]) S) : TCall env 44 [] S K :=
  (c_godownref02_Tables_ok S).forget fun t S1 hw ⟨t1, t2, h1, _, _, _, _, _, hk⟩ => ⟨[], _, S, .none hw hk, by rw [h1]; exact .tupF (.cons (.slN ..) (.cons (.slN ..) .nil)), hK⟩

set_option maxRecDepth 8000 in
theorem c_godownref02_New_ok (S : TS) : TCall env 18 [] S fun r S' => r = .agg [.sl .none 1 (gD tabH), .sl .none 1 (gD tabK)] ∧ Keep S S' := by
  refine TCall.of 10 [.cell 0 32] Tryd.func18 rfl rfl rfl rfl (by kernel_rfl) rfl ?_
  refine TWp.sr fun K0 hK0 => ?_
  simp (disch := omega) only [seval, go_sem]
  repeat (refine ⟨by omega, ?_⟩)
  refine hK0 _ _ ?_; try (clear hK0; clear K0)
  refine TWp.sr fun K1 hK1 => ?_
  simp (disch := omega) only [seval, go_sem]
  repeat (refine ⟨by omega, ?_⟩)
  refine c_godownref02_Tables ?_
  simp (disch := omega) only [seval, go_sem]
  repeat (refine ⟨by omega, ?_⟩)
  refine hK1 _ _ ?_; try (clear hK1; clear K1)
  refine TWp.sr fun K2 hK2 => ?_
  simp (disch := omega) only [seval, go_sem]
  repeat (refine ⟨by omega, ?_⟩)
  refine hK2 _ _ ?_; try (clear hK2; clear K2)
  exact TWp.ret ⟨.inr rfl, [.agg [.sl .none 1 (gD tabH), .sl .none 1 (gD tabK)]], ⟨resCell (id := S.n) rfl ti32 (push_self _ _) rfl rfl, trivial⟩, rfl, Keep.push S _⟩

theorem c_godownref02_New {S : TS} {K : TV → TS → Prop} (hK : K (.agg [.sl .none 1 (gD tabH), .sl .none 1 (gD tabK)]) S) : TCall env 18 [] S K :=
  (TCall.pure (c_godownref02_New_ok S) (.aggF (.cons (.slN ..) (.cons (.slN ..) .nil)))).mono fun t S' ⟨h1, h2⟩ => by rw [h1, h2]; exact hK

end Go.Proofs.YtiijiejncefpmaaDoor
namespace Go.Proofs.YtiijiejncefpmaaDoor
open Go.RowKit TL

set_option maxRecDepth 20000 in
theorem tabH_eq : tabH = fW := by
  unfold tabH primeB
  decide +kernel
set_option maxRecDepth 20000 in
theorem tabK_eq : tabK = kW := by
  unfold tabK primeB
  decide +kernel
theorem sha_bare : sha [] = [0xe3#8, 0xb0#8, 0xc4#8, 0x42#8, 0x98#8, 0xfc#8, 0x1c#8, 0x14#8, 0x9a#8, 0xfb#8, 0xf4#8, 0xc8#8, 0x99#8, 0x6f#8, 0xb9#8, 0x24#8, 0x27#8, 0xae#8, 0x41#8, 0xe4#8, 0x64#8, 0x9b#8, 0x93#8, 0x4c#8, 0xa4#8, 0x95#8, 0x99#8, 0x1b#8, 0x78#8, 0x52#8, 0xb8#8, 0x55#8] := by
  decide +kernel
theorem rot_tr (x : BitVec 32) : rot x (-6) = tr x 6 ∧ rot x (-11) = tr x 11 ∧ rot x (-25) = tr x 25 ∧ rot x (-2) = tr x 2 ∧ rot x (-13) = tr x 13 ∧ rot x (-22) = tr x 22 ∧ rot x (-7) = tr x 7 ∧ rot x (-18) = tr x 18 ∧ rot x (-17) = tr x 17 ∧ rot x (-19) = tr x 19 := by
  refine ⟨?_, ?_, ?_, ?_, ?_, ?_, ?_, ?_, ?_, ?_⟩ <;> exact BitVec.or_comm _ _
theorem most_eq (a b c : BitVec 32) : (a &&& b) ||| (c &&& (a ||| b)) = (a &&& b) ^^^ (a &&& c) ^^^ (b &&& c) := by
  apply BitVec.eq_of_getLsbD_eq
  intro i hi
  simp only [BitVec.getLsbD_or, BitVec.getLsbD_and, BitVec.getLsbD_xor]
  cases a.getLsbD i <;> cases b.getLsbD i <;> cases c.getLsbD i <;> rfl
theorem nat_word1 (x y z t : Nat) (hx : x < 256) (hy : y < 256) (hz : z < 256) (ht : t < 256) :
    (((x * 16777216 % 4294967296 + y * 65536 % 4294967296) % 4294967296 + z * 256 % 4294967296) % 4294967296 + t) % 4294967296 = x * 16777216 + (y * 65536 + (z * 256 + t)) := by omega
theorem nat_word2 (x y z t : Nat) (hx : x < 256) (hy : y < 256) (hz : z < 256) (ht : t < 256) :
    x <<< 24 ||| y <<< 16 ||| z <<< 8 ||| t = x * 16777216 + (y * 65536 + (z * 256 + t)) := by
  rw [Nat.or_assoc, Nat.or_assoc]
  rw [← Nat.shiftLeft_add_eq_or_of_lt (i := 8) (by omega) z]
  rw [← Nat.shiftLeft_add_eq_or_of_lt (i := 16) (by rw [Nat.shiftLeft_eq]; omega) y]
  rw [← Nat.shiftLeft_add_eq_or_of_lt (i := 24) (by rw [Nat.shiftLeft_eq, Nat.shiftLeft_eq]; omega) x]
  simp only [Nat.shiftLeft_eq]
theorem word_eq (a b c d : BitVec 8) : BitVec.setWidth 32 a * 16777216#32 + BitVec.setWidth 32 b * 65536#32 + BitVec.setWidth 32 c * 256#32 + BitVec.setWidth 32 d =
    (BitVec.setWidth 32 a) <<< 24 ||| (BitVec.setWidth 32 b) <<< 16 ||| (BitVec.setWidth 32 c) <<< 8 ||| (BitVec.setWidth 32 d) := by
  have ha := a.isLt
  have hb := b.isLt
  have hc := c.isLt
  have hd := d.isLt
  have e (v : BitVec 8) : (BitVec.setWidth 32 v).toNat = v.toNat := by rw [BitVec.toNat_setWidth]; exact Nat.mod_eq_of_lt (by have := v.isLt; omega)
  have f (v : BitVec 8) (k : Nat) (hk : k ≤ 24) : (BitVec.setWidth 32 v <<< k).toNat = v.toNat <<< k := by
    rw [BitVec.toNat_shiftLeft, e]
    refine Nat.mod_eq_of_lt ?_
    rw [Nat.shiftLeft_eq]
    have h1 := Nat.pow_le_pow_right (n := 2) (by omega) hk
    have h2 := Nat.mul_le_mul (show v.toNat ≤ 255 by have := v.isLt; omega) h1
    have h3 : 255 * 2 ^ 24 < 2 ^ 32 := by decide
    omega
  apply BitVec.eq_of_toNat_eq
  rw [BitVec.toNat_or, BitVec.toNat_or, BitVec.toNat_or, f a 24 (by omega), f b 16 (by omega), f c 8 (by omega), e d, nat_word2 _ _ _ _ ha hb hc hd, ← nat_word1 _ _ _ _ ha hb hc hd]
  rw [BitVec.toNat_add, BitVec.toNat_add, BitVec.toNat_add, BitVec.toNat_mul, BitVec.toNat_mul, BitVec.toNat_mul, e, e, e, e]
  rfl
end Go.Proofs.YtiijiejncefpmaaDoor
namespace Go.Proofs.YtiijiejncefpmaaDoor
open Go.RowKit TL

theorem getD_set_ne' {α : Type} (l : List α) (i j : Nat) (x d : α) (h : j ≠ i) : (l.set i x).getD j d = l.getD j d := by
  simp [List.getD_eq_getElem?_getD, List.getElem?_set, Ne.symm h]
theorem getD_set_eq' {α : Type} (l : List α) (i : Nat) (x d : α) (h : i < l.length) : (l.set i x).getD i d = x := by
  simp [List.getD_eq_getElem?_getD, List.getElem?_set, h]
theorem sched_get (p : List (BitVec 8)) : ∀ m j, j < m → m ≤ 64 → (sched p m).getD j 0 = wordStep p j (sched p j)
  | 0, j, h, _ => by omega
  | m + 1, j, h, hm => by
    rw [sched]
    by_cases hj : j = m
    · subst hj
      rw [getD_set_eq' _ _ _ _ (by rw [sched_len]; omega)]
    · rw [getD_set_ne' _ _ _ _ _ hj]
      exact sched_get p m j (by omega) (by omega)
theorem sched_take (p : List (BitVec 8)) (i j : Nat) (hj : j < i) (hi : i ≤ 64) : ((sched p 64).take i).getD j 0 = (sched p i).getD j 0 := by
  rw [sched_get p i j hj hi, ← sched_get p 64 j (by omega) (by omega)]
  simp [List.getD_eq_getElem?_getD, List.getElem?_take, hj]
theorem drop_take_get (q : List (BitVec 8)) (at_ i k : Nat) (h : 4 * i + k < 64) : ((q.drop at_).take 64).getD (4 * i + k) 0 = (q.drop (at_ + 4 * i)).getD k 0 := by
  simp only [List.getD_eq_getElem?_getD, List.getElem?_take, if_pos h, List.getElem?_drop, Nat.add_assoc]
theorem word_lo (q : List (BitVec 8)) (at_ i : Nat) (hi : i < 16) : (sched ((q.drop at_).take 64) 64).getD i 0 =
    BitVec.setWidth 32 ((q.drop (at_ + 4 * i)).getD 0 0#8) * 16777216#32 + BitVec.setWidth 32 ((q.drop (at_ + 4 * i)).getD 1 0#8) * 65536#32 + BitVec.setWidth 32 ((q.drop (at_ + 4 * i)).getD 2 0#8) * 256#32 + BitVec.setWidth 32 ((q.drop (at_ + 4 * i)).getD 3 0#8) := by
  rw [sched_get _ 64 i (by omega) (by omega), wordStep, if_pos hi, wordAt, word_eq]
  have h0 := drop_take_get q at_ i 0 (by omega)
  have h1 := drop_take_get q at_ i 1 (by omega)
  have h2 := drop_take_get q at_ i 2 (by omega)
  have h3 := drop_take_get q at_ i 3 (by omega)
  rw [Nat.add_zero] at h0
  rw [h0, h1, h2, h3]; rfl
theorem word_hi (b : List (BitVec 8)) (i : Nat) (h16 : 16 ≤ i) (hi : i < 64) : (sched b 64).getD i 0 =
    ((sched b 64).take i).getD (i - 16) 0#32 + (tr (((sched b 64).take i).getD (i - 15) 0#32) 7 ^^^ tr (((sched b 64).take i).getD (i - 15) 0#32) 18 ^^^ ((sched b 64).take i).getD (i - 15) 0#32 >>> 3) + ((sched b 64).take i).getD (i - 7) 0#32 +
      (tr (((sched b 64).take i).getD (i - 2) 0#32) 17 ^^^ tr (((sched b 64).take i).getD (i - 2) 0#32) 19 ^^^ ((sched b 64).take i).getD (i - 2) 0#32 >>> 10) := by
  have h1 := sched_take b i (i - 16) (by omega) (by omega)
  have h2 := sched_take b i (i - 15) (by omega) (by omega)
  have h3 := sched_take b i (i - 7) (by omega) (by omega)
  have h4 := sched_take b i (i - 2) (by omega) (by omega)
  have e := sched_get b 64 i (by omega) (by omega)
  rw [wordStep, if_neg (by omega), low, high, ← h1, ← h2, ← h3, ← h4, (rot_tr _).2.2.2.2.2.2.1, (rot_tr _).2.2.2.2.2.2.2.1, (rot_tr _).2.2.2.2.2.2.2.2.1, (rot_tr _).2.2.2.2.2.2.2.2.2] at e
  exact e
theorem turn_ref (bl : List (BitVec 8)) (hs : List (BitVec 32)) (i : Nat) (a b c d e f g x : BitVec 32) (h : turnUpto bl hs i = [a, b, c, d, e, f, g, x]) :
    turnUpto bl hs (i + 1) = [(x + (tr e 6 ^^^ tr e 11 ^^^ tr e 25) + (e &&& f ^^^ ~~~e &&& g) + kW.getD i 0#32 + (sched bl 64).getD i 0#32) + ((tr a 2 ^^^ tr a 13 ^^^ tr a 22) + (a &&& b ||| c &&& (a ||| b))), a, b, c, d + (x + (tr e 6 ^^^ tr e 11 ^^^ tr e 25) + (e &&& f ^^^ ~~~e &&& g) + kW.getD i 0#32 + (sched bl 64).getD i 0#32), e, f, g] := by
  rw [turnUpto, h]
  generalize sched bl 64 = w
  rw [most_eq]
  have e1 := rot_tr e
  have a1 := rot_tr a
  simp only [turnStep, List.getD_cons_zero, List.getD_cons_succ, e1, a1]
  simp only [List.take, splL, List.getD_cons_zero, List.getD_cons_succ, List.set_cons_zero, List.set_cons_succ]
  rw [BitVec.add_assoc]; rfl
theorem add_ref (h : List (BitVec 32)) (bl : List (BitVec 8)) (hh : h.length = 8) (a b c d e f g x : BitVec 32) (ht : turnUpto bl h 64 = [a, b, c, d, e, f, g, x]) :
    turn h bl = [h.getD 0 0#32 + a, h.getD 1 0#32 + b, h.getD 2 0#32 + c, h.getD 3 0#32 + d, h.getD 4 0#32 + e, h.getD 5 0#32 + f, h.getD 6 0#32 + g, h.getD 7 0#32 + x] := by
  rw [turn, ht]
  clear ht
  match h, hh with
  | [h0, h1, h2, h3, h4, h5, h6, h7], _ =>
    simp only [addUpto, List.getD_cons_zero, List.getD_cons_succ, List.set_cons_zero, List.set_cons_succ]

set_option maxRecDepth 20000 in
set_option maxHeartbeats 4000000 in
theorem c_godownref02_Sum_ok (S : TS) (g1 g2 g : Tag) (p : List (BitVec 8)) (hp : p.length ≤ 1000000) : TCall env 40 [.agg [.sl g1 1 (gD fW), .sl g2 1 (gD kW)], .sl g 1 (dB p)] S fun r S' => ∃ k, r = .sl (.own k) 1 (dB (sha p)) ∧ S.n ≤ k ∧ S'.objs k = .lin ∧ Keep S S' := by
  have hf8 := fW_len
  have hk64 := kW_len
  obtain ⟨PP, hPP⟩ : ∃ PP, PP = padding p := ⟨_, rfl⟩
  have hpm : PP.length ≤ p.length + 200 := by rw [hPP]; exact padding_max p
  have hpl : PP.length % 64 = 0 := by rw [hPP]; exact padding_len p
  refine TCall.of 306 [.tmp 4] Tryd.func40 rfl rfl rfl rfl (by kernel_rfl) rfl ?_
  refine TWp.sr fun K0 hK0 => ?_
  simp -implicitDefEqProofs (disch := omega) only [seval, go_sem]
  repeat (refine ⟨by omega, ?_⟩)
  refine hK0 _ _ ?_; try (clear hK0; clear K0)
  refine TWp.sr fun K1 hK1 => ?_
  simp -implicitDefEqProofs (disch := omega) only [seval, go_sem]
  repeat (refine ⟨by omega, ?_⟩)
  refine hK1 _ _ ?_; try (clear hK1; clear K1)
  refine TWp.sr fun K2 hK2 => ?_
  simp -implicitDefEqProofs (disch := omega) only [seval, go_sem]
  repeat (refine ⟨by omega, ?_⟩)
  refine hK2 _ _ ?_; try (clear hK2; clear K2)
  refine TWp.sr fun K3 hK3 => ?_
  simp -implicitDefEqProofs (disch := omega) only [seval, go_sem]
  repeat (refine ⟨by omega, ?_⟩)
  refine hK3 _ _ ?_; try (clear hK3; clear K3)
  refine TWp.seq_k fun K4 hK4 => ?_
  refine TWp.block ?_
  refine TWp.loop (fun n T S' => ∃ xs k, T 1 = .sl g 1 (dB p) ∧ T 2 = .ptr S.n 0 ∧ T 5 = .sl (.own k) 1 (dB xs) ∧ S'.objs k = .lin ∧ S.n < k ∧ S'.objs S.n = .cells 32 [.sl g1 1 (gD fW), .sl g2 1 (gD kW)] ∧ S.n < S'.n ∧ Keep S S' ∧ xs.length + n ≤ 1000100 ∧ n = nought xs ∧ xs ++ List.replicate n 0#8 = (p ++ [128#8]) ++ List.replicate (nought (p ++ [128#8])) 0#8) (nought (p ++ [128#8])) ?_ ?_
  · refine ⟨p ++ [128#8], S.n + 1 + 1, rfl, rfl, by rw [dB_app]; rfl, push_self _ _, by omega, (push_lt (by simp only [TS.push_n]; omega)).trans ((push_lt (by simp only [TS.push_n]; omega)).trans (push_self _ _)), by simp only [TS.push_n]; omega, ((Keep.push S _).push' _).push' _, ?_, rfl, rfl⟩
    simp [nought]; omega
  rintro n T S' ⟨xs, k, h1, h2, h5, o5, b5, o0, bn, hkeep, hlen, hn, hxs⟩
  refine TWp.seq_k fun K5 hK5 => ?_
  refine TWp.sr fun K6 hK6 => ?_
  simp -implicitDefEqProofs (disch := omega) only [seval, go_sem, h1, h2, h5, o5, o0]
  repeat (refine ⟨by omega, ?_⟩)
  refine hK6 _ _ ?_; try (clear hK6; clear K6)
  refine TWp.cond_k fun K7 hK7 => ?_
  simp -implicitDefEqProofs (disch := omega) only [seval, go_sem, h1, h2, h5, o5, o0]
  refine hK7 _ (fun hb => ?_) (fun hb => ?_) <;> clear hK7 <;> clear K7
  · try (replace hb := of_decide_eq_true hb)
    refine TWp.skip ?_
    refine hK5 _ _ ?_; try (clear hK5; clear K5)
    refine TWp.block ?_
    refine TWp.rk fun K8 hK8 => ?_
    simp -implicitDefEqProofs (disch := omega) only [seval, go_sem, h1, h2, h5, o5, o0]
    repeat (refine ⟨by omega, ?_⟩)
    refine hK8 _ _ ?_; try (clear hK8; clear K8)
    have h1n : nought xs = nought (xs ++ [0#8]) + 1 := by simp [nought]; omega
    refine ⟨nought (xs ++ [0#8]), by omega, xs ++ [0#8], S'.n, h1, h2, by rw [dB_app]; rfl, push_self _ _, bn, (setpush_lt bn (by omega)).trans o0, Nat.lt_succ_of_lt bn, (hkeep.set (by omega) _).push' _, by simp; omega, rfl, ?_⟩
    rw [← hxs, hn, h1n, List.replicate_succ]; simp
  · try (replace hb := of_decide_eq_false hb)
    refine TWp.exit ?_
    refine hK4 _ _ ?_; try (clear hK4; clear K4)
    refine TWp.sr fun K9 hK9 => ?_
    simp -implicitDefEqProofs (disch := omega) only [seval, go_sem, h1, h2, h5, o5, o0]
    repeat (refine ⟨by omega, ?_⟩)
    refine hK9 _ _ ?_; try (clear hK9; clear K9)
    refine TWp.seq_k fun K10 hK10 => ?_
    refine TWp.sr fun K11 hK11 => ?_
    simp -implicitDefEqProofs (disch := omega) only [seval, go_sem, h1, h2, h5, o5, o0]
    repeat (refine ⟨by omega, ?_⟩)
    refine hK11 _ _ ?_; try (clear hK11; clear K11)
    refine TWp.block ?_
    refine TWp.loop (fun n T S' => ∃ ys k i, n + i = 8 ∧ T 1 = .sl g 1 (dB p) ∧ T 2 = .ptr S.n 0 ∧ T 6 = .lit (w64 (BitVec.ofNat 64 p.length * 8#64)) ∧ T 7 = .lit (.int .i64 (i : Int)) ∧ T 5 = .sl (.own k) 1 (dB ys) ∧ S'.objs k = .lin ∧ S.n < k ∧ S'.objs S.n = .cells 32 [.sl g1 1 (gD fW), .sl g2 1 (gD kW)] ∧ S.n < S'.n ∧ Keep S S' ∧ ys.length + n ≤ 1000300 ∧ ys ++ lenBytes (BitVec.ofNat 64 p.length * 8#64) n = PP) (8) ?_ ?_
    · have hn0 : n = 0 := by rw [hn]; simp only [nought]; omega
      subst hn0
      refine ⟨xs, k, 0, rfl, h1, h2, rfl, rfl, h5, o5, b5, o0, bn, hkeep, by omega, ?_⟩
      rw [hPP, padding, ← hxs]; simp
    rintro n T S' ⟨ys, k, i, hi, h1, h2, h6, h7, h5, o5, b5, o0, bn, hkeep, hlen, hys⟩
    refine TWp.seq_k fun K12 hK12 => ?_
    refine TWp.sr fun K13 hK13 => ?_
    simp -implicitDefEqProofs (disch := omega) only [seval, go_sem, h1, h2, h5, h6, h7, o5, o0]
    repeat (refine ⟨by omega, ?_⟩)
    refine hK13 _ _ ?_; try (clear hK13; clear K13)
    refine TWp.cond_k fun K14 hK14 => ?_
    simp -implicitDefEqProofs (disch := omega) only [seval, go_sem, h1, h2, h5, h6, h7, o5, o0]
    refine hK14 _ (fun hb => ?_) (fun hb => ?_) <;> clear hK14 <;> clear K14
    · try (replace hb := of_decide_eq_true hb)
      refine TWp.skip ?_
      refine hK12 _ _ ?_; try (clear hK12; clear K12)
      refine TWp.seq_k fun K15 hK15 => ?_
      refine TWp.block ?_
      refine TWp.rk fun K16 hK16 => ?_
      simp -implicitDefEqProofs (disch := omega) only [seval, go_sem, h1, h2, h5, h6, h7, o5, o0]
      repeat (refine ⟨by omega, ?_⟩)
      refine hK16 _ _ ?_; try (clear hK16; clear K16)
      refine hK15 _ _ ?_; try (clear hK15; clear K15)
      refine TWp.rk fun K17 hK17 => ?_
      simp -implicitDefEqProofs (disch := omega) only [seval, go_sem, h1, h2, h5, h6, h7, o5, o0]
      repeat (refine ⟨by omega, ?_⟩)
      refine hK17 _ _ ?_; try (clear hK17; clear K17)
      obtain ⟨j, rfl⟩ : ∃ j, n = j + 1 := ⟨n - 1, by omega⟩
      have he : 56 - 8 * i = 8 * j := by omega
      refine ⟨j, by omega, ys ++ [((BitVec.ofNat 64 p.length * 8#64) >>> (8 * j)).setWidth 8], S'.n, i + 1, by omega, h1, h2, h6, rfl, ?_, push_self _ _, bn, (setpush_lt bn (by omega)).trans o0, Nat.lt_succ_of_lt bn, (hkeep.set (by omega) _).push' _, by simp; omega, ?_⟩
      · rw [dB_app, he]; rfl
      · rw [← hys]; simp [lenBytes]
    · try (replace hb := of_decide_eq_false hb)
      refine TWp.exit ?_
      refine hK10 _ _ ?_; try (clear hK10; clear K10)
      refine TWp.sr fun K18 hK18 => ?_
      simp -implicitDefEqProofs (disch := omega) only [seval, go_sem, h1, h2, h5, h6, h7, o5, o0]
      repeat (refine ⟨by omega, ?_⟩)
      refine hK18 _ _ ?_; try (clear hK18; clear K18)
      refine TWp.seq_k fun K19 hK19 => ?_
      refine TWp.sr fun K20 hK20 => ?_
      simp -implicitDefEqProofs (disch := omega) only [seval, go_sem, h1, h2, h5, h6, h7, o5, o0]
      repeat (refine ⟨by omega, ?_⟩)
      refine hK20 _ _ ?_; try (clear hK20; clear K20)
      refine TWp.block ?_
      refine TWp.loop (fun n T S' => ∃ at_ h g5 g8, at_ + 64 * n = PP.length ∧ h.length = 8 ∧ sumN n h (PP.drop at_) = sumN (PP.length / 64) fW PP ∧ T 9 = .lit (.int .i64 (at_ : Int)) ∧ T 2 = .ptr S.n 0 ∧ T 5 = .sl g5 1 (dB PP) ∧ T 8 = .sl g8 1 (gD h) ∧ S'.objs S.n = .cells 32 [.sl g1 1 (gD fW), .sl g2 1 (gD kW)] ∧ S.n < S'.n ∧ Keep S S') (PP.length / 64) ?_ ?_
      · have hn0 : n = 0 := by omega
        have hy : ys = PP := by rw [← hys, hn0]; simp [lenBytes]
        exact ⟨0, fW, _, _, by omega, fW_len, by simp, rfl, h2, by rw [← hy]; exact h5, rfl, (push_lt bn).trans o0, Nat.lt_succ_of_lt bn, hkeep.push' _⟩
      rintro n T S' ⟨at_, h, g5, g8, hat, hh, hsum, h9, h2, h5, h8, o0, bn, hkeep⟩
      obtain ⟨n3, rfl⟩ : ∃ n3, n3 = n := ⟨n, rfl⟩
      obtain ⟨W, hW⟩ : ∃ W, W = sched ((PP.drop at_).take 64) 64 := ⟨_, rfl⟩
      have hsl : W.length = 64 := by rw [hW]; exact sched_len _ 64
      refine TWp.seq_k fun K21 hK21 => ?_
      refine TWp.sr fun K22 hK22 => ?_
      simp -implicitDefEqProofs (disch := omega) only [seval, go_sem, h2, h5, h8, h9, o0]
      repeat (refine ⟨by omega, ?_⟩)
      refine hK22 _ _ ?_; try (clear hK22; clear K22)
      refine TWp.cond_k fun K23 hK23 => ?_
      simp -implicitDefEqProofs (disch := omega) only [seval, go_sem, h2, h5, h8, h9, o0]
      refine hK23 _ (fun hb => ?_) (fun hb => ?_) <;> clear hK23 <;> clear K23
      · try (replace hb := of_decide_eq_true hb)
        refine TWp.skip ?_
        refine hK21 _ _ ?_; try (clear hK21; clear K21)
        refine TWp.seq_k fun K24 hK24 => ?_
        refine TWp.block ?_
        refine TWp.sr fun K25 hK25 => ?_
        simp -implicitDefEqProofs (disch := omega) only [seval, go_sem, h2, h5, h8, h9, o0]
        repeat (refine ⟨by omega, ?_⟩)
        refine hK25 _ _ ?_; try (clear hK25; clear K25)
        refine TWp.seq_k fun K26 hK26 => ?_
        refine TWp.sr fun K27 hK27 => ?_
        simp -implicitDefEqProofs (disch := omega) only [seval, go_sem, h2, h5, h8, h9, o0]
        repeat (refine ⟨by omega, ?_⟩)
        refine hK27 _ _ ?_; try (clear hK27; clear K27)
        refine TWp.block ?_
        refine TWp.asRow 10 1 rfl (.inl rfl) ?_
        refine TWp.loop (fun n T S' => ∃ i k, n + i = 64 ∧ T 11 = .lit (.int .i64 (i : Int)) ∧ T 10 = .sl (.own k) 1 (gD (W.take i)) ∧ S'.objs k = .lin ∧ S.n < k ∧ T 9 = .lit (.int .i64 (at_ : Int)) ∧ T 2 = .ptr S.n 0 ∧ T 5 = .sl g5 1 (dB PP) ∧ T 8 = .sl g8 1 (gD h) ∧ S'.objs S.n = .cells 32 [.sl g1 1 (gD fW), .sl g2 1 (gD kW)] ∧ S.n < S'.n ∧ Keep S S') (64) ?_ ?_
        · exact ⟨0, S'.n, rfl, rfl, rfl, push_self _ _, bn, h9, h2, h5, h8, (push_lt bn).trans o0, Nat.lt_succ_of_lt bn, hkeep.push' _⟩
        rintro n T S' ⟨i, k, hi, h11, h10, o10, b10, h9, h2, h5, h8, o0, bn, hkeep⟩
        have htl : (W.take i).length = min i W.length := List.length_take
        have hdl : (PP.drop (at_ + 4 * i)).length = PP.length - (at_ + 4 * i) := List.length_drop
        refine TWp.seq_k fun K28 hK28 => ?_
        refine TWp.sr fun K29 hK29 => ?_
        simp -implicitDefEqProofs (disch := omega) only [seval, go_sem, h2, h5, h8, h9, h10, h11, o0, o10]
        repeat (refine ⟨by omega, ?_⟩)
        refine hK29 _ _ ?_; try (clear hK29; clear K29)
        refine TWp.cond_k fun K30 hK30 => ?_
        simp -implicitDefEqProofs (disch := omega) only [seval, go_sem, h2, h5, h8, h9, h10, h11, o0, o10]
        refine hK30 _ (fun hb => ?_) (fun hb => ?_) <;> clear hK30 <;> clear K30
        · try (replace hb := of_decide_eq_true hb)
          refine TWp.skip ?_
          refine hK28 _ _ ?_; try (clear hK28; clear K28)
          refine TWp.seq_k fun K31 hK31 => ?_
          refine TWp.block ?_
          refine TWp.sr fun K32 hK32 => ?_
          simp -implicitDefEqProofs (disch := omega) only [seval, go_sem, h2, h5, h8, h9, h10, h11, o0, o10]
          repeat (refine ⟨by omega, ?_⟩)
          refine hK32 _ _ ?_; try (clear hK32; clear K32)
          refine TWp.cond_k fun K33 hK33 => ?_
          simp -implicitDefEqProofs (disch := omega) only [seval, go_sem, h2, h5, h8, h9, h10, h11, o0, o10]
          refine hK33 _ (fun hb => ?_) (fun hb => ?_) <;> clear hK33 <;> clear K33
          · try (replace hb := of_decide_eq_true hb)
            refine TWp.sr fun K34 hK34 => ?_
            simp -implicitDefEqProofs (disch := omega) only [seval, go_sem, h2, h5, h8, h9, h10, h11, o0, o10]
            repeat (refine ⟨by omega, ?_⟩)
            refine hK34 _ _ ?_; try (clear hK34; clear K34)
            refine TWp.dk [(0, 0), (1, 0), (2, 0), (3, 0), (4, 0), (5, 0), (6, 0), (7, 0), (8, 0), (9, 0), (10, 0), (11, 0), (12, 0), (13, 0), (14, 0), (15, 0), (16, 0), (17, 0), (18, 0), (19, 0), (20, 0), (21, 0), (22, 0), (23, 1), (24, 2), (25, 0)] follows (by kernel_rfl) fun K35 hK35 => ?_
            simp -implicitDefEqProofs (disch := omega) only [seval, go_sem, h2, h5, h8, h9, h10, h11, o0, o10]
            repeat (refine ⟨by omega, ?_⟩)
            refine hK35 _ _ ?_; try (clear hK35; clear K35)
            refine hK31 _ _ ?_; try (clear hK31; clear K31)
            refine TWp.rk fun K36 hK36 => ?_
            simp -implicitDefEqProofs (disch := omega) only [seval, go_sem, h2, h5, h8, h9, h10, h11, o0, o10]
            repeat (refine ⟨by omega, ?_⟩)
            refine hK36 _ _ ?_; try (clear hK36; clear K36)
            refine ⟨n - 1, by omega, i + 1, S'.n, by omega, rfl, ?_, push_self _ _, bn, h9, h2, h5, h8, (setpush_lt bn (by omega)).trans o0, Nat.lt_succ_of_lt bn, (hkeep.set (by omega) _).push' _⟩
            rw [take_succ_getD 0 (show i < W.length by omega), gD_app, hW, word_lo PP at_ i (by omega), ← hW]; rfl
          · try (replace hb := of_decide_eq_false hb)
            refine TWp.sd [(0, 0), (1, 0), (2, 0), (3, 0), (4, 0), (5, 0), (6, 0), (7, 0), (8, 0), (9, 0), (10, 0), (11, 0)] follows (by kernel_rfl) fun K37 hK37 => ?_
            simp -implicitDefEqProofs (disch := omega) only [seval, go_sem, h2, h5, h8, h9, h10, h11, o0, o10]
            repeat (refine ⟨by omega, ?_⟩)
            refine hK37 _ _ ?_; try (clear hK37; clear K37)
            refine TWp.dk [(0, 0), (1, 0), (2, 0), (3, 0), (4, 0), (5, 0), (6, 0), (8, 0), (11, 0), (12, 0), (15, 0), (16, 0), (17, 0), (18, 0), (19, 0), (21, 0), (23, 0), (26, 0), (27, 0), (7, 1), (9, 1), (10, 0), (13, 0), (14, 0), (20, 0), (22, 1), (24, 1), (25, 0), (28, 0), (29, 0), (30, 1), (31, 2), (32, 0)] follows (by kernel_rfl) fun K38 hK38 => ?_
            simp -implicitDefEqProofs (disch := omega) only [seval, go_sem, h2, h5, h8, h9, h10, h11, o0, o10]
            repeat (refine ⟨by omega, ?_⟩)
            refine c_godownref02_turned ?_
            simp -implicitDefEqProofs (disch := omega) only [seval, go_sem, h2, h5, h8, h9, h10, h11, o0, o10]
            repeat (refine ⟨by omega, ?_⟩)
            refine c_godownref02_turned ?_
            simp -implicitDefEqProofs (disch := omega) only [seval, go_sem, h2, h5, h8, h9, h10, h11, o0, o10]
            repeat (refine ⟨by omega, ?_⟩)
            refine c_godownref02_turned ?_
            simp -implicitDefEqProofs (disch := omega) only [seval, go_sem, h2, h5, h8, h9, h10, h11, o0, o10]
            repeat (refine ⟨by omega, ?_⟩)
            refine c_godownref02_turned ?_
            simp -implicitDefEqProofs (disch := omega) only [seval, go_sem, h2, h5, h8, h9, h10, h11, o0, o10]
            repeat (refine ⟨by omega, ?_⟩)
            refine hK38 _ _ ?_; try (clear hK38; clear K38)
            refine hK31 _ _ ?_; try (clear hK31; clear K31)
            refine TWp.rk fun K39 hK39 => ?_
            simp -implicitDefEqProofs (disch := omega) only [seval, go_sem, h2, h5, h8, h9, h10, h11, o0, o10]
            repeat (refine ⟨by omega, ?_⟩)
            refine hK39 _ _ ?_; try (clear hK39; clear K39)
            refine ⟨n - 1, by omega, i + 1, S'.n, by omega, rfl, ?_, push_self _ _, bn, h9, h2, h5, h8, (setpush_lt bn (by omega)).trans o0, Nat.lt_succ_of_lt bn, (hkeep.set (by omega) _).push' _⟩
            rw [take_succ_getD 0 (show i < W.length by omega), gD_app, hW, word_hi _ i (by omega) (by omega), ← hW]; rfl
        · try (replace hb := of_decide_eq_false hb)
          refine TWp.exit ?_
          refine hK26 _ _ ?_; try (clear hK26; clear K26)
          refine TWp.sd [(0, 0), (1, 0), (2, 0), (3, 0), (4, 0), (5, 0), (6, 0), (7, 0), (8, 0), (9, 0), (10, 0), (11, 0), (12, 0), (13, 0), (14, 0), (15, 0), (16, 0), (17, 0), (18, 0), (19, 0), (20, 0), (21, 0), (22, 0), (23, 0), (24, 0), (25, 0), (26, 0), (27, 0), (28, 0), (29, 0), (30, 0), (31, 0)] follows (by kernel_rfl) fun K40 hK40 => ?_
          simp -implicitDefEqProofs (disch := omega) only [seval, go_sem, h2, h5, h8, h9, h10, h11, o0, o10]
          repeat (refine ⟨by omega, ?_⟩)
          refine hK40 _ _ ?_; try (clear hK40; clear K40)
          refine TWp.seq_k fun K41 hK41 => ?_
          refine TWp.sr fun K42 hK42 => ?_
          simp -implicitDefEqProofs (disch := omega) only [seval, go_sem, h2, h5, h8, h9, h10, h11, o0, o10]
          repeat (refine ⟨by omega, ?_⟩)
          refine hK42 _ _ ?_; try (clear hK42; clear K42)
          refine TWp.block ?_
          refine TWp.loop (fun n T S' => ∃ i a b c d e f g x gw, n + i = 64 ∧ turnUpto ((PP.drop at_).take 64) h i = [a, b, c, d, e, f, g, x] ∧ T 15 = .lit (w32 a) ∧ T 16 = .lit (w32 b) ∧ T 17 = .lit (w32 c) ∧ T 18 = .lit (w32 d) ∧ T 19 = .lit (w32 e) ∧ T 20 = .lit (w32 f) ∧ T 21 = .lit (w32 g) ∧ T 22 = .lit (w32 x) ∧ T 23 = .lit (.int .i64 (i : Int)) ∧ T 10 = .sl gw 1 (gD W) ∧ T 9 = .lit (.int .i64 (at_ : Int)) ∧ T 2 = .ptr S.n 0 ∧ T 5 = .sl g5 1 (dB PP) ∧ T 8 = .sl g8 1 (gD h) ∧ S'.objs S.n = .cells 32 [.sl g1 1 (gD fW), .sl g2 1 (gD kW)] ∧ S.n < S'.n ∧ Keep S S') (64) ?_ ?_
          · have hi64 : i = 64 := by omega
            have hWt : W.take i = W := by rw [hi64]; exact List.take_of_length_le (by omega)
            refine ⟨0, _, _, _, _, _, _, _, _, _, rfl, ?_, rfl, rfl, rfl, rfl, rfl, rfl, rfl, rfl, rfl, by rw [← hWt]; exact h10, h9, h2, h5, h8, o0, bn, hkeep⟩
            clear hK26
            match h, hh with
            | [q0, q1, q2, q3, q4, q5, q6, q7], _ => rfl
          rintro n T S' ⟨i, a, b, c, d, e, f, gg, x, gw, hi, htu, h15, h16, h17, h18, h19, h20, h21, h22, h23, h10, h9, h2, h5, h8, o0, bn, hkeep⟩
          refine TWp.seq_k fun K43 hK43 => ?_
          refine TWp.sr fun K44 hK44 => ?_
          simp -implicitDefEqProofs (disch := omega) only [seval, go_sem, h2, h5, h8, h9, h10, h15, h16, h17, h18, h19, h20, h21, h22, h23, o0]
          repeat (refine ⟨by omega, ?_⟩)
          refine hK44 _ _ ?_; try (clear hK44; clear K44)
          refine TWp.cond_k fun K45 hK45 => ?_
          simp -implicitDefEqProofs (disch := omega) only [seval, go_sem, h2, h5, h8, h9, h10, h15, h16, h17, h18, h19, h20, h21, h22, h23, o0]
          refine hK45 _ (fun hb => ?_) (fun hb => ?_) <;> clear hK45 <;> clear K45
          · try (replace hb := of_decide_eq_true hb)
            refine TWp.skip ?_
            refine hK43 _ _ ?_; try (clear hK43; clear K43)
            refine TWp.seq_k fun K46 hK46 => ?_
            refine TWp.block ?_
            refine TWp.sd [(0, 0), (1, 0), (3, 0), (6, 0), (10, 0), (11, 0), (12, 0), (13, 0), (14, 0), (15, 0), (16, 0), (17, 0), (19, 0), (20, 0), (21, 0), (22, 0), (23, 0), (25, 0), (26, 0), (27, 0), (28, 0), (2, 1), (4, 1), (5, 0), (7, 1), (8, 0), (9, 0), (18, 0), (24, 0), (29, 0), (30, 0)] follows (by kernel_rfl) fun K47 hK47 => ?_
            simp -implicitDefEqProofs (disch := omega) only [seval, go_sem, h2, h5, h8, h9, h10, h15, h16, h17, h18, h19, h20, h21, h22, h23, o0]
            repeat (refine ⟨by omega, ?_⟩)
            refine c_godownref02_turned ?_
            simp -implicitDefEqProofs (disch := omega) only [seval, go_sem, h2, h5, h8, h9, h10, h15, h16, h17, h18, h19, h20, h21, h22, h23, o0]
            repeat (refine ⟨by omega, ?_⟩)
            refine c_godownref02_turned ?_
            simp -implicitDefEqProofs (disch := omega) only [seval, go_sem, h2, h5, h8, h9, h10, h15, h16, h17, h18, h19, h20, h21, h22, h23, o0]
            repeat (refine ⟨by omega, ?_⟩)
            refine c_godownref02_turned ?_
            simp -implicitDefEqProofs (disch := omega) only [seval, go_sem, h2, h5, h8, h9, h10, h15, h16, h17, h18, h19, h20, h21, h22, h23, o0]
            repeat (refine ⟨by omega, ?_⟩)
            refine hK47 _ _ ?_; try (clear hK47; clear K47)
            refine TWp.sr fun K48 hK48 => ?_
            simp -implicitDefEqProofs (disch := omega) only [seval, go_sem, h2, h5, h8, h9, h10, h15, h16, h17, h18, h19, h20, h21, h22, h23, o0]
            repeat (refine ⟨by omega, ?_⟩)
            refine c_godownref02_turned ?_
            simp -implicitDefEqProofs (disch := omega) only [seval, go_sem, h2, h5, h8, h9, h10, h15, h16, h17, h18, h19, h20, h21, h22, h23, o0]
            repeat (refine ⟨by omega, ?_⟩)
            refine c_godownref02_turned ?_
            simp -implicitDefEqProofs (disch := omega) only [seval, go_sem, h2, h5, h8, h9, h10, h15, h16, h17, h18, h19, h20, h21, h22, h23, o0]
            repeat (refine ⟨by omega, ?_⟩)
            refine c_godownref02_turned ?_
            simp -implicitDefEqProofs (disch := omega) only [seval, go_sem, h2, h5, h8, h9, h10, h15, h16, h17, h18, h19, h20, h21, h22, h23, o0]
            repeat (refine ⟨by omega, ?_⟩)
            refine hK48 _ _ ?_; try (clear hK48; clear K48)
            refine TWp.rk fun K49 hK49 => ?_
            simp -implicitDefEqProofs (disch := omega) only [seval, go_sem, h2, h5, h8, h9, h10, h15, h16, h17, h18, h19, h20, h21, h22, h23, o0]
            repeat (refine ⟨by omega, ?_⟩)
            refine hK49 _ _ ?_; try (clear hK49; clear K49)
            refine hK46 _ _ ?_; try (clear hK46; clear K46)
            refine TWp.rk fun K50 hK50 => ?_
            simp -implicitDefEqProofs (disch := omega) only [seval, go_sem, h2, h5, h8, h9, h10, h15, h16, h17, h18, h19, h20, h21, h22, h23, o0]
            repeat (refine ⟨by omega, ?_⟩)
            refine hK50 _ _ ?_; try (clear hK50; clear K50)
            refine ⟨n - 1, by omega, i + 1, _, _, _, _, _, _, _, _, gw, by omega, turn_ref _ _ _ _ _ _ _ _ _ _ _ htu, ?_, rfl, rfl, rfl, ?_, rfl, rfl, rfl, rfl, h10, h9, h2, h5, h8, o0, bn, hkeep⟩
            · rw [← hW]; rfl
            · rw [← hW]; rfl
          · try (replace hb := of_decide_eq_false hb)
            refine TWp.exit ?_
            refine hK41 _ _ ?_; try (clear hK41; clear K41)
            refine TWp.dk [(0, 0), (1, 0), (2, 0), (3, 0), (4, 0), (5, 0), (6, 0), (7, 0), (8, 0), (9, 0), (10, 0), (11, 0), (12, 0), (13, 0), (14, 0), (15, 0), (16, 0), (17, 0), (18, 0), (19, 0), (20, 0), (21, 0), (22, 0), (23, 0), (24, 0), (25, 0), (26, 0), (27, 0), (28, 0), (29, 0), (30, 0), (31, 0), (32, 0), (33, 0), (34, 0), (35, 0), (36, 0), (37, 0), (38, 0), (39, 0), (40, 2), (41, 0)] follows (by kernel_rfl) fun K51 hK51 => ?_
            simp -implicitDefEqProofs (disch := omega) only [seval, go_sem, h2, h5, h8, h9, h10, h15, h16, h17, h18, h19, h20, h21, h22, h23, o0]
            repeat (refine ⟨by omega, ?_⟩)
            refine hK51 _ _ ?_; try (clear hK51; clear K51)
            refine hK24 _ _ ?_; try (clear hK24; clear K24)
            refine TWp.rk fun K52 hK52 => ?_
            simp -implicitDefEqProofs (disch := omega) only [seval, go_sem, h2, h5, h8, h9, h10, h15, h16, h17, h18, h19, h20, h21, h22, h23, o0]
            repeat (refine ⟨by omega, ?_⟩)
            refine hK52 _ _ ?_; try (clear hK52; clear K52)
            obtain ⟨m3, rfl⟩ : ∃ m3, n3 = m3 + 1 := ⟨n3 - 1, by omega⟩
            have hi64 : i = 64 := by omega
            subst hi64
            refine ⟨m3, by omega, at_ + 64, _, g5, .full, by omega, turn_len h ((PP.drop at_).take 64) hh, ?_, rfl, h2, h5, ?_, o0, bn, hkeep⟩
            · rw [← hsum, sumN, List.drop_drop]
            · rw [add_ref h _ hh _ _ _ _ _ _ _ _ htu]; rfl
      · try (replace hb := of_decide_eq_false hb)
        refine TWp.exit ?_
        refine hK19 _ _ ?_; try (clear hK19; clear K19)
        refine TWp.sr fun K53 hK53 => ?_
        simp -implicitDefEqProofs (disch := omega) only [seval, go_sem, h2, h5, h8, h9, o0]
        repeat (refine ⟨by omega, ?_⟩)
        refine hK53 _ _ ?_; try (clear hK53; clear K53)
        refine TWp.seq_k fun K54 hK54 => ?_
        refine TWp.sr fun K55 hK55 => ?_
        simp -implicitDefEqProofs (disch := omega) only [seval, go_sem, h2, h5, h8, h9, o0]
        repeat (refine ⟨by omega, ?_⟩)
        refine hK55 _ _ ?_; try (clear hK55; clear K55)
        refine TWp.block ?_
        refine TWp.asRow 26 1 rfl (.inl rfl) ?_
        refine TWp.loop (fun n T S' => ∃ i k, n + i = 8 ∧ T 8 = .sl g8 1 (gD h) ∧ T 27 = .lit (.int .i64 (i : Int)) ∧ T 26 = .sl (.own k) 1 (dB (wordsB (h.take i))) ∧ S'.objs k = .lin ∧ S.n ≤ k ∧ Keep S S') (8) ?_ ?_
        · exact ⟨0, S'.n, rfl, h8, rfl, rfl, push_self _ _, by omega, hkeep.push' _⟩
        rintro n T S' ⟨i, k, hi, h8, h27, h26, o26, b26, hkeep⟩
        have hwl := wordsB_len (h.take i)
        have hil : (h.take i).length = min i h.length := List.length_take
        refine TWp.seq_k fun K56 hK56 => ?_
        refine TWp.sr fun K57 hK57 => ?_
        simp -implicitDefEqProofs (disch := omega) only [seval, go_sem, h8, h26, h27, o26]
        repeat (refine ⟨by omega, ?_⟩)
        refine hK57 _ _ ?_; try (clear hK57; clear K57)
        refine TWp.cond_k fun K58 hK58 => ?_
        simp -implicitDefEqProofs (disch := omega) only [seval, go_sem, h8, h26, h27, o26]
        refine hK58 _ (fun hb => ?_) (fun hb => ?_) <;> clear hK58 <;> clear K58
        · try (replace hb := of_decide_eq_true hb)
          refine TWp.skip ?_
          refine hK56 _ _ ?_; try (clear hK56; clear K56)
          refine TWp.seq_k fun K59 hK59 => ?_
          refine TWp.block ?_
          refine TWp.dk [(0, 0), (1, 0), (2, 0), (3, 0), (4, 0), (5, 0), (6, 0), (7, 0), (8, 0), (9, 0), (10, 0), (11, 0), (12, 0), (13, 0), (14, 0), (15, 0), (16, 0), (17, 0), (18, 0), (19, 0), (20, 0), (21, 0), (22, 0), (23, 0), (24, 1), (25, 2), (26, 0)] follows (by kernel_rfl) fun K60 hK60 => ?_
          simp -implicitDefEqProofs (disch := omega) only [seval, go_sem, h8, h26, h27, o26]
          repeat (refine ⟨by omega, ?_⟩)
          refine hK60 _ _ ?_; try (clear hK60; clear K60)
          refine hK59 _ _ ?_; try (clear hK59; clear K59)
          refine TWp.rk fun K61 hK61 => ?_
          simp -implicitDefEqProofs (disch := omega) only [seval, go_sem, h8, h26, h27, o26]
          repeat (refine ⟨by omega, ?_⟩)
          refine hK61 _ _ ?_; try (clear hK61; clear K61)
          refine ⟨n - 1, by omega, i + 1, S'.n, by omega, h8, rfl, ?_, push_self _ _, hkeep.1, (hkeep.set b26 _).push' _⟩
          rw [wordsB_snoc h i (by omega), dB_app]; rfl
        · try (replace hb := of_decide_eq_false hb)
          refine TWp.exit ?_
          refine hK54 _ _ ?_; try (clear hK54; clear K54)
          refine TWp.sr fun K62 hK62 => ?_
          simp -implicitDefEqProofs (disch := omega) only [seval, go_sem, h8, h26, h27, o26]
          repeat (refine ⟨by omega, ?_⟩)
          refine hK62 _ _ ?_; try (clear hK62; clear K62)
          refine TWp.ret ⟨.inr rfl, [_], ⟨rfl, trivial⟩, ?_⟩
          have hn30 : n3 = 0 := by omega
          subst hn30
          refine ⟨k, ?_, b26, o26, hkeep⟩
          have hh8 : i = 8 := by omega
          have hht : h.take i = h := List.take_of_length_le (by omega)
          rw [sha, ← hPP, ← hsum]; rfl

theorem c_godownref02_Sum {S : TS} {g1 g2 g : Tag} {p : List (BitVec 8)} {K : TV → TS → Prop} (hK : K (.sl (.own S.n) 1 (dB (sha p))) (S.push .lin)) (hp : p.length ≤ 1000000 := by omega) : TCall env 40 [.agg [.sl g1 1 (gD fW), .sl g2 1 (gD kW)], .sl g 1 (dB p)] S K :=
  (c_godownref02_Sum_ok S g1 g2 g p hp).row.mono fun t S' ⟨h1, h2⟩ => by rw [h1, h2]; exact hK

end Go.Proofs.YtiijiejncefpmaaDoor
namespace Go.Proofs.YtiijiejncefpmaaDoor
open Go.RowKit TL

def foldAt (s : List (BitVec 8)) : Nat → List (BitVec 8)
  | 0 => List.replicate 20 0
  | i + 1 => (foldAt s i).set (i % 20) ((foldAt s i).getD (i % 20) 0 ^^^ s.getD i 0)
theorem foldAt_len (s : List (BitVec 8)) : ∀ i, (foldAt s i).length = 20
  | 0 => by simp [foldAt]
  | i + 1 => by simp [foldAt, foldAt_len s i]
theorem foldAt_get (s : List (BitVec 8)) : ∀ m, m ≤ 32 → ∀ j, j < 20 → (foldAt s m).getD j 0 = (if j < m then s.getD j 0 else 0) ^^^ (if j + 20 < m then s.getD (j + 20) 0 else 0)
  | 0, _, j, hj => by
    rw [if_neg (by omega), if_neg (by omega), foldAt, List.getD_eq_getElem?_getD, List.getElem?_replicate]
    simp [hj]
  | m + 1, hm, j, hj => by
    have hl := foldAt_len s m
    have ih := foldAt_get s m (by omega)
    simp only [foldAt]
    by_cases hjm : j = m % 20
    · subst hjm
      rw [getD_set_eq' _ _ _ _ (by omega), ih _ hj]
      rcases Nat.lt_or_ge m 20 with h | h
      · have : m % 20 = m := Nat.mod_eq_of_lt h
        rw [this, if_neg (by omega), if_neg (by omega), if_pos (by omega), if_neg (by omega)]
        simp
      · have : m % 20 + 20 = m := by omega
        rw [this, if_pos (by omega), if_neg (by omega), if_pos (by omega), if_pos (by omega)]
        simp
    · rw [getD_set_ne' _ _ _ _ _ hjm, ih _ hj]
      have e1 : (j < m + 1) = (j < m) := by apply propext; omega
      have e2 : (j + 20 < m + 1) = (j + 20 < m) := by apply propext; omega
      simp only [e1, e2]
def fold20 (s : List (BitVec 8)) : List (BitVec 8) := foldAt s 32
def fb (s : List (BitVec 8)) (i : Nat) : BitVec 8 := if i + 20 < 32 then s.getD i 0 ^^^ s.getD (i + 20) 0 else s.getD i 0
def fbs (s : List (BitVec 8)) : Nat → List (BitVec 8)
  | 0 => []
  | i + 1 => fbs s i ++ [fb s i]
theorem fbs_len (s : List (BitVec 8)) : ∀ i, (fbs s i).length = i
  | 0 => rfl
  | i + 1 => by simp [fbs, fbs_len s i]
theorem fbs_get (s : List (BitVec 8)) : ∀ m j, j < m → (fbs s m).getD j 0 = fb s j
  | 0, j, h => by omega
  | m + 1, j, h => by
    have hl := fbs_len s m
    rw [fbs]
    rcases Nat.lt_or_ge j m with h1 | h1
    · rw [← fbs_get s m j h1]; simp [List.getD_eq_getElem?_getD, List.getElem?_append_left (show j < (fbs s m).length by omega)]
    · obtain rfl : j = m := by omega
      simp [List.getD_eq_getElem?_getD, List.getElem?_append_right (show (fbs s j).length ≤ j by omega), hl]
theorem ext_getD {α : Type} {a b : List α} (d : α) (hl : a.length = b.length) (h : ∀ i, i < a.length → a.getD i d = b.getD i d) : a = b := by
  apply List.ext_getElem hl
  intro i h1 h2
  have := h i h1
  simpa [List.getD_eq_getElem?_getD, List.getElem?_eq_getElem h1, List.getElem?_eq_getElem h2] using this
theorem fold20_fbs (s : List (BitVec 8)) : fold20 s = fbs s 20 := by
  refine ext_getD 0 (by rw [fold20, foldAt_len, fbs_len]) fun i hi => ?_
  rw [fold20, foldAt_len] at hi
  rw [fold20, foldAt_get s 32 (by omega) i hi, fbs_get s 20 i hi, fb, if_pos (by omega)]
  by_cases h : i + 20 < 32
  · rw [if_pos h, if_pos h]
  · rw [if_neg h, if_neg h]; simp
theorem fold20_len (s : List (BitVec 8)) : (fold20 s).length = 20 := foldAt_len s 32

theorem ren_slN (n : Nat) (L : List Nat) (s : Nat) (xs : List D) : Ren n L (.sl .none s xs) (.sl .none s xs) := .slN .none s xs
set_option maxRecDepth 8000 in
set_option maxHeartbeats 1000000 in
theorem c_godownref02_Short_ok (S : TS) (g1 g2 g : Tag) (p : List (BitVec 8)) (hp : p.length ≤ 1000000) : TCall env 43 [.agg [.sl g1 1 (gD fW), .sl g2 1 (gD kW)], .sl g 1 (dB p)] S fun r S' => ∃ k, r = .sl (.own k) 1 (dB (fold20 (sha p))) ∧ S.n ≤ k ∧ S'.objs k = .lin ∧ Keep S S' := by
  have hs := sha_len p
  refine TCall.of 35 [.tmp 4] Tryd.func43 rfl rfl rfl rfl (by kernel_rfl) rfl ?_
  refine TWp.sr fun K0 hK0 => ?_
  simp -implicitDefEqProofs (disch := omega) only [seval, go_sem]
  repeat (refine ⟨by omega, ?_⟩)
  refine hK0 _ _ ?_; try (clear hK0; clear K0)
  refine TWp.sr fun K1 hK1 => ?_
  simp -implicitDefEqProofs (disch := omega) only [seval, go_sem]
  repeat (refine ⟨by omega, ?_⟩)
  refine c_godownref02_Sum ?_
  simp -implicitDefEqProofs (disch := omega) only [seval, go_sem]
  repeat (refine ⟨by omega, ?_⟩)
  refine hK1 _ _ ?_; try (clear hK1; clear K1)
  refine TWp.sr fun K2 hK2 => ?_
  simp -implicitDefEqProofs (disch := omega) only [seval, go_sem]
  repeat (refine ⟨by omega, ?_⟩)
  refine hK2 _ _ ?_; try (clear hK2; clear K2)
  refine TWp.seq_k fun K3 hK3 => ?_
  refine TWp.sr fun K4 hK4 => ?_
  simp -implicitDefEqProofs (disch := omega) only [seval, go_sem]
  repeat (refine ⟨by omega, ?_⟩)
  refine hK4 _ _ ?_; try (clear hK4; clear K4)
  refine TWp.block ?_
  refine TWp.asRow 6 1 rfl (.inl rfl) ?_
  refine TWp.loop (fun n T S' => ∃ i k gs, n + i = 20 ∧ T 5 = .sl gs 1 (dB (sha p)) ∧ T 7 = .lit (.int .i64 (i : Int)) ∧ T 6 = .sl (.own k) 1 (dB (fbs (sha p) i)) ∧ S.n ≤ k ∧ S'.objs k = .lin ∧ Keep S S') (20) ?_ ?_
  · exact ⟨0, S.n + 1 + 1, _, rfl, rfl, rfl, rfl, by omega, push_self _ _, ((Keep.push S _).push' _).push' _⟩
  rintro n T S' ⟨i, k, gs, hi, h5, h7, h6, hk, o6, hkeep⟩
  have hfl := fbs_len (sha p) i
  refine TWp.seq_k fun K5 hK5 => ?_
  refine TWp.sr fun K6 hK6 => ?_
  simp -implicitDefEqProofs (disch := omega) only [seval, go_sem, h5, h7, h6, o6]
  repeat (refine ⟨by omega, ?_⟩)
  refine hK6 _ _ ?_; try (clear hK6; clear K6)
  refine TWp.cond_k fun K7 hK7 => ?_
  simp -implicitDefEqProofs (disch := omega) only [seval, go_sem, h5, h7, h6, o6]
  refine hK7 _ (fun hb => ?_) (fun hb => ?_) <;> clear hK7 <;> clear K7
  · try (replace hb := of_decide_eq_true hb)
    refine TWp.skip ?_
    refine hK5 _ _ ?_; try (clear hK5; clear K5)
    refine TWp.seq_k fun K8 hK8 => ?_
    refine TWp.block ?_
    refine TWp.sr fun K9 hK9 => ?_
    simp -implicitDefEqProofs (disch := omega) only [seval, go_sem, h5, h7, h6, o6]
    repeat (refine ⟨by omega, ?_⟩)
    refine hK9 _ _ ?_; try (clear hK9; clear K9)
    refine TWp.seq_k fun K10 hK10 => ?_
    refine TWp.sr fun K11 hK11 => ?_
    simp -implicitDefEqProofs (disch := omega) only [seval, go_sem, h5, h7, h6, o6]
    repeat (refine ⟨by omega, ?_⟩)
    refine hK11 _ _ ?_; try (clear hK11; clear K11)
    refine TWp.cond_k fun K12 hK12 => ?_
    simp -implicitDefEqProofs (disch := omega) only [seval, go_sem, h5, h7, h6, o6]
    refine hK12 _ (fun hb => ?_) (fun hb => ?_) <;> clear hK12 <;> clear K12
    · try (replace hb := of_decide_eq_true hb)
      refine TWp.rk fun K13 hK13 => ?_
      simp -implicitDefEqProofs (disch := omega) only [seval, go_sem, h5, h7, h6, o6]
      repeat (refine ⟨by omega, ?_⟩)
      refine hK13 _ _ ?_; try (clear hK13; clear K13)
      refine hK10 _ _ ?_; try (clear hK10; clear K10)
      refine TWp.rk fun K14 hK14 => ?_
      simp -implicitDefEqProofs (disch := omega) only [seval, go_sem, h5, h7, h6, o6]
      repeat (refine ⟨by omega, ?_⟩)
      refine hK14 _ _ ?_; try (clear hK14; clear K14)
      refine hK8 _ _ ?_; try (clear hK8; clear K8)
      refine TWp.rk fun K15 hK15 => ?_
      simp -implicitDefEqProofs (disch := omega) only [seval, go_sem, h5, h7, h6, o6]
      repeat (refine ⟨by omega, ?_⟩)
      refine hK15 _ _ ?_; try (clear hK15; clear K15)
      refine ⟨n - 1, by omega, i + 1, S'.n, gs, by omega, h5, rfl, ?_, hkeep.1, push_self _ _, (hkeep.set hk _).push' _⟩
      show TV.sl _ _ _ = _
      rw [fbs, dB_app, fb, if_pos (by omega)]; rfl
    · try (replace hb := of_decide_eq_false hb)
      refine TWp.skip ?_
      refine hK10 _ _ ?_; try (clear hK10; clear K10)
      refine TWp.rk fun K16 hK16 => ?_
      simp -implicitDefEqProofs (disch := omega) only [seval, go_sem, h5, h7, h6, o6]
      repeat (refine ⟨by omega, ?_⟩)
      refine hK16 _ _ ?_; try (clear hK16; clear K16)
      refine hK8 _ _ ?_; try (clear hK8; clear K8)
      refine TWp.rk fun K17 hK17 => ?_
      simp -implicitDefEqProofs (disch := omega) only [seval, go_sem, h5, h7, h6, o6]
      repeat (refine ⟨by omega, ?_⟩)
      refine hK17 _ _ ?_; try (clear hK17; clear K17)
      refine ⟨n - 1, by omega, i + 1, S'.n, gs, by omega, h5, rfl, ?_, hkeep.1, push_self _ _, (hkeep.set hk _).push' _⟩
      show TV.sl _ _ _ = _
      rw [fbs, dB_app, fb, if_neg (by omega)]; rfl
  · try (replace hb := of_decide_eq_false hb)
    refine TWp.exit ?_
    refine hK3 _ _ ?_; try (clear hK3; clear K3)
    refine TWp.sr fun K18 hK18 => ?_
    simp -implicitDefEqProofs (disch := omega) only [seval, go_sem, h5, h7, h6, o6]
    repeat (refine ⟨by omega, ?_⟩)
    refine hK18 _ _ ?_; try (clear hK18; clear K18)
    refine TWp.ret ⟨.inr rfl, [_], ⟨rfl, trivial⟩, ?_⟩
    have hi20 : i = 20 := by omega
    subst hi20
    exact ⟨k, by rw [fold20_fbs]; rfl, hk, o6, hkeep⟩

theorem c_godownref02_Short {S : TS} {g1 g2 g : Tag} {p : List (BitVec 8)} {K : TV → TS → Prop} (hK : K (.sl (.own S.n) 1 (dB (fold20 (sha p)))) (S.push .lin)) (hp : p.length ≤ 1000000 := by omega) : TCall env 43 [.agg [.sl g1 1 (gD fW), .sl g2 1 (gD kW)], .sl g 1 (dB p)] S K :=
  (c_godownref02_Short_ok S g1 g2 g p hp).row.mono fun t S' ⟨h1, h2⟩ => by rw [h1, h2]; exact hK

end Go.Proofs.YtiijiejncefpmaaDoor
