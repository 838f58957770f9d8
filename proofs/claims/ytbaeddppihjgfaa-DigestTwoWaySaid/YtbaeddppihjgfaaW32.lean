/- Words of 32 bits as the walk's whole numbers: each operation of the walk on such numbers is the word's own. Plain; no program. -/
import Derived.WalkKit
namespace Go.Proofs.Ytbaeddppihjgfaa.Sg
open Go Go.RowKit
set_option linter.unusedVariables false
abbrev W := BitVec 32
/-- A word's number. -/
def un (x : W) : Int := (x.toNat : Int)
theorem wrap_u32_nat (n : Nat) (h : n < 2 ^ 32) : IntKind.u32.wrap (n : Int) = n := by rw [IntKind.wrap_u32]; omega
theorem ofInt_w (x : W) : BitVec.ofInt 32 (x.toNat : Int) = x := by simp
theorem un_nonneg (x : W) : 0 ≤ un x := Int.natCast_nonneg _
theorem un_lt (x : W) : un x < 4294967296 := by have := x.isLt; unfold un; omega
theorem un_inj {x y : W} (h : un x = un y) : x = y := by unfold un at h; exact BitVec.eq_of_toNat_eq (by omega)
theorem ofInt_un (x : W) : BitVec.ofInt 32 (un x) = x := ofInt_w x
theorem un_ofInt (z : Int) : un (BitVec.ofInt 32 z) = z % 4294967296 := by unfold un; rw [BitVec.toNat_ofInt]; omega
theorem un_ofInt_of (z : Int) (h0 : 0 ≤ z) (h1 : z < 4294967296) : un (BitVec.ofInt 32 z) = z := by rw [un_ofInt]; omega
theorem u_signed : IntKind.u32.signed = false := rfl
theorem u_xor (x y : W) : bits .xor .u32 (un x) (un y) = un (x ^^^ y) := by
  show IntKind.u32.wrap ((BitVec.ofInt 32 (x.toNat : Int) ^^^ BitVec.ofInt 32 (y.toNat : Int)).toNat : Int) = _
  rw [ofInt_w, ofInt_w]; exact wrap_u32_nat _ (BitVec.isLt _)
theorem u_and (x y : W) : bits .and .u32 (un x) (un y) = un (x &&& y) := by
  show IntKind.u32.wrap ((BitVec.ofInt 32 (x.toNat : Int) &&& BitVec.ofInt 32 (y.toNat : Int)).toNat : Int) = _
  rw [ofInt_w, ofInt_w]; exact wrap_u32_nat _ (BitVec.isLt _)
theorem u_or (x y : W) : bits .or .u32 (un x) (un y) = un (x ||| y) := by
  show IntKind.u32.wrap ((BitVec.ofInt 32 (x.toNat : Int) ||| BitVec.ofInt 32 (y.toNat : Int)).toNat : Int) = _
  rw [ofInt_w, ofInt_w]; exact wrap_u32_nat _ (BitVec.isLt _)
theorem u_add (x y : W) : IntKind.u32.wrap (un x + un y) = un (x + y) := by
  unfold un; rw [IntKind.wrap_u32, BitVec.toNat_add]; omega
theorem u_add' (x y : W) : (un x + un y) % 4294967296 = un (x + y) := by rw [← u_add, IntKind.wrap_u32]
theorem u_shr (x : W) (n : Nat) : un x / 2 ^ n = un (x >>> n) := by
  unfold un; rw [BitVec.toNat_ushiftRight, Nat.shiftRight_eq_div_pow]; simp
theorem u_shl (x : W) (n : Nat) : IntKind.u32.wrap (un x * 2 ^ n) = un (x <<< n) := by
  unfold un; rw [IntKind.wrap_u32, BitVec.toNat_shiftLeft, Nat.shiftLeft_eq]; simp
theorem u_shl' (x : W) (n : Nat) : un x * 2 ^ n % 4294967296 = un (x <<< n) := by rw [← u_shl, IntKind.wrap_u32]
theorem u_div8 (x : W) : un x / (8 : Int) = un (x >>> (3 : Nat)) := u_shr x 3
theorem u_div16 (x : W) : un x / (16 : Int) = un (x >>> (4 : Nat)) := u_shr x 4
theorem u_div1024 (x : W) : un x / (1024 : Int) = un (x >>> (10 : Nat)) := u_shr x 10
theorem u_div2 (x : W) : un x / (2 : Int) = un (x >>> (1 : Nat)) := u_shr x 1
theorem u_div256 (x : W) : un x / (256 : Int) = un (x >>> (8 : Nat)) := u_shr x 8
theorem u_div65536 (x : W) : un x / (65536 : Int) = un (x >>> (16 : Nat)) := u_shr x 16
theorem u_div16777216 (x : W) : un x / (16777216 : Int) = un (x >>> (24 : Nat)) := u_shr x 24
theorem u_and15 (x : W) : bits .and .u32 (un x) 15 = un (x &&& 15#32) := by rw [← u_and x 15#32]; rfl
theorem u_max : IntKind.u32.max = un (BitVec.allOnes 32) := by decide
theorem u_not (x : W) : bits .xor .u32 IntKind.u32.max (un x) = un (~~~ x) := by
  rw [u_max, u_xor, BitVec.allOnes_xor]
theorem u_not' (x : W) : bits .xor .u32 4294967295 (un x) = un (~~~ x) := by
  rw [← u_not]; rfl
theorem u_wrap (x : W) : IntKind.u32.wrap (un x) = un x := wrap_u32_nat _ x.isLt
theorem u_wrap' (x : W) : un x % 4294967296 = un x := by have := un_nonneg x; have := un_lt x; omega
theorem i_wrap (x : W) : wrap64 (un x) = un x := by have := un_nonneg x; have := un_lt x; unfold wrap64; omega
theorem i_wrap2 (x : W) : IntKind.i64.wrap (un x) = un x := by have := un_nonneg x; have := un_lt x; rw [IntKind.wrap_i64]; omega
/-- A byte as a word. -/
def b2w (b : UInt8) : W := BitVec.ofNat 32 b.toNat
theorem un_b2w (b : UInt8) : un (b2w b) = (b.toNat : Int) := by
  unfold un b2w; rw [BitVec.toNat_ofNat]; have := b.toNat_lt; omega
/-! The same words as numbers of 64 bits. -/
theorem wrap_i64_nat (n : Nat) (h : n < 2 ^ 32) : IntKind.i64.wrap (n : Int) = n := by rw [IntKind.wrap_i64]; omega
theorem ofInt64 (x : W) : BitVec.ofInt 64 (x.toNat : Int) = x.setWidth 64 := by
  apply BitVec.eq_of_toNat_eq
  rw [BitVec.toNat_ofInt, BitVec.toNat_setWidth]
  omega
theorem i_bits (op : BinOp) (x y : W) (f64 : BitVec 64 → BitVec 64 → BitVec 64) (f32 : W → W → W) (hf : (f64 (x.setWidth 64) (y.setWidth 64)) = (f32 x y).setWidth 64)
    (ho : bits op .i64 (un x) (un y) = IntKind.i64.wrap ((f64 (BitVec.ofInt 64 (un x)) (BitVec.ofInt 64 (un y))).toNat : Int)) : bits op .i64 (un x) (un y) = un (f32 x y) := by
  rw [ho]; unfold un; rw [ofInt64, ofInt64, hf, BitVec.toNat_setWidth, Nat.mod_eq_of_lt (by have := (f32 x y).isLt; omega)]
  exact wrap_i64_nat _ (f32 x y).isLt
theorem i_xor (x y : W) : bits .xor .i64 (un x) (un y) = un (x ^^^ y) :=
  i_bits .xor x y (· ^^^ ·) (· ^^^ ·) (by ext i; simp) rfl
theorem i_and (x y : W) : bits .and .i64 (un x) (un y) = un (x &&& y) :=
  i_bits .and x y (· &&& ·) (· &&& ·) (by ext i; simp) rfl
theorem i_or (x y : W) : bits .or .i64 (un x) (un y) = un (x ||| y) :=
  i_bits .or x y (· ||| ·) (· ||| ·) (by ext i; simp) rfl
theorem un_ones : un (BitVec.allOnes 32) = 4294967295 := by decide
theorem i_not (x : W) : bits .xor .i64 (un x) 4294967295 = un (~~~ x) := by rw [← un_ones, i_xor, BitVec.xor_allOnes]
/-- 'z & (1<<32 - 1)' of any number: its last 32 bits. -/
theorem i_ones (z : Int) : bits .and .i64 z 4294967295 = un (BitVec.ofInt 32 z) := by
  show IntKind.i64.wrap (((BitVec.ofInt 64 z) &&& (BitVec.ofInt 64 4294967295)).toNat : Int) = _
  rw [show (BitVec.ofInt 64 4294967295) = BitVec.ofNat 64 (2 ^ 32 - 1) from by decide, BitVec.toNat_and, BitVec.toNat_ofNat, Nat.mod_eq_of_lt (by decide), Nat.and_two_pow_sub_one_eq_mod]
  rw [wrap_i64_nat _ (Nat.mod_lt _ (by decide)), un_ofInt, BitVec.toNat_ofInt]
  omega
theorem ofInt_wrap (z : Int) : BitVec.ofInt 32 (wrap64 z) = BitVec.ofInt 32 z := by
  apply BitVec.eq_of_toNat_eq; rw [BitVec.toNat_ofInt, BitVec.toNat_ofInt]; unfold wrap64; omega
theorem ofInt_add (a b : Int) : BitVec.ofInt 32 (a + b) = BitVec.ofInt 32 a + BitVec.ofInt 32 b := by
  apply BitVec.eq_of_toNat_eq; simp only [BitVec.toNat_add, BitVec.toNat_ofInt]; omega
end Go.Proofs.Ytbaeddppihjgfaa.Sg
