/- Two plain laws of the sum: it is affine, and it tells apart what differs within 32 neighbouring bits. No program. -/
import Derived.Test.YtbaeddppihjgfaaDoorCrcRef
namespace Go.Proofs.YtbaeddppihjgfaaDoor.Sg
open Go Go.RowKit
set_option linter.unusedVariables false
theorem nib_xor (x y : W) : nib (x ^^^ y) = nib x ^^^ nib y := by rw [← bit4, ← bit4, ← bit4, bitN_xor]
theorem b2w_xor (a b : UInt8) : b2w (a ^^^ b) = b2w a ^^^ b2w b := by
  unfold b2w
  apply BitVec.eq_of_toNat_eq
  rw [BitVec.toNat_xor, BitVec.toNat_ofNat, BitVec.toNat_ofNat, BitVec.toNat_ofNat, UInt8.toNat_xor]
  have h1 := a.toNat_lt; have h2 := b.toNat_lt
  have h3 : a.toNat ^^^ b.toNat < 2 ^ 8 := Nat.xor_lt_two_pow h1 h2
  rw [Nat.mod_eq_of_lt (by omega), Nat.mod_eq_of_lt (by omega), Nat.mod_eq_of_lt (by omega)]
theorem crcB_xor (x y : W) (a b : UInt8) : crcB (x ^^^ y) (a ^^^ b) = crcB x a ^^^ crcB y b := by
  unfold crcB
  rw [b2w_xor, show x ^^^ y ^^^ (b2w a ^^^ b2w b) = (x ^^^ b2w a) ^^^ (y ^^^ b2w b) by ac_rfl, nib_xor, nib_xor]
/-- The exclusive or of three lists, place by place. -/
def xor3 : List UInt8 → List UInt8 → List UInt8 → List UInt8
  | a :: r, b :: t, c :: u => (a ^^^ b ^^^ c) :: xor3 r t u
  | _, _, _ => []
theorem xor3_length : ∀ (a b c : List UInt8) (n : Nat), a.length = n → b.length = n → c.length = n → (xor3 a b c).length = n
  | [], b, c, n, h1, h2, h3 => by simp [xor3] at *; exact h1
  | a :: r, [], c, n, h1, h2, h3 => by simp at h1 h2; omega
  | a :: r, b :: t, [], n, h1, h2, h3 => by simp at h1 h3; omega
  | a :: r, b :: t, c :: u, n + 1, h1, h2, h3 => by simp [xor3] at *; exact xor3_length r t u n h1 h2 h3
  | a :: r, b :: t, c :: u, 0, h1, h2, h3 => by simp at h1
theorem xor3_take : ∀ (k : Nat) (a b c : List UInt8) (ha : k < a.length) (hb : k < b.length) (hc : k < c.length),
    xor3 (a.take (k + 1)) (b.take (k + 1)) (c.take (k + 1)) = xor3 (a.take k) (b.take k) (c.take k) ++ [a[k] ^^^ b[k] ^^^ c[k]]
  | 0, a :: r, b :: t, c :: u, _, _, _ => by simp [xor3]
  | k + 1, a :: r, b :: t, c :: u, ha, hb, hc => by
    simp only [List.take_succ_cons, xor3, List.cons_append, List.getElem_cons_succ]
    rw [xor3_take k r t u (by simpa using ha) (by simpa using hb) (by simpa using hc)]
theorem fold_xor3 : ∀ (a b c : List UInt8) (x y z : W), a.length = b.length → b.length = c.length →
    (xor3 a b c).foldl crcB (x ^^^ y ^^^ z) = a.foldl crcB x ^^^ b.foldl crcB y ^^^ c.foldl crcB z
  | [], [], [], x, y, z, _, _ => rfl
  | a :: r, b :: t, c :: u, x, y, z, h1, h2 => by
    simp only [xor3, List.foldl_cons]
    rw [crcB_xor, crcB_xor]
    exact fold_xor3 r t u _ _ _ (by simpa using h1) (by simpa using h2)
  | [], b :: t, _, _, _, _, h, _ => by simp at h
  | a :: r, [], _, _, _, _, h, _ => by simp at h
  | [], [], c :: u, _, _, _, _, h => by simp at h
  | a :: r, b :: t, [], _, _, _, _, h => by simp at h
theorem crcW_xor3 (a b c : List UInt8) (h1 : a.length = b.length) (h2 : b.length = c.length) : crcW (xor3 a b c) = crcW a ^^^ crcW b ^^^ crcW c := by
  unfold crcW
  have h := fold_xor3 a b c (BitVec.allOnes 32) (BitVec.allOnes 32) (BitVec.allOnes 32) h1 h2
  rw [BitVec.xor_self, BitVec.zero_xor] at h
  rw [h]
  generalize a.foldl crcB (BitVec.allOnes 32) = x
  generalize b.foldl crcB (BitVec.allOnes 32) = y
  generalize c.foldl crcB (BitVec.allOnes 32) = z
  rw [← BitVec.allOnes_xor, ← BitVec.allOnes_xor, ← BitVec.allOnes_xor, ← BitVec.allOnes_xor]
  rw [show BitVec.allOnes 32 ^^^ x ^^^ (BitVec.allOnes 32 ^^^ y) ^^^ (BitVec.allOnes 32 ^^^ z) = (BitVec.allOnes 32 ^^^ BitVec.allOnes 32) ^^^ (BitVec.allOnes 32 ^^^ (x ^^^ y ^^^ z)) by ac_rfl, BitVec.xor_self, BitVec.zero_xor]
/-! ### A run of 32 bits -/
theorem xor_zero_iff (a b : Nat) : a ^^^ b = 0 ↔ a = b := by
  constructor
  · intro h
    have : a ^^^ b ^^^ b = 0 ^^^ b := by rw [h]
    rw [Nat.xor_assoc, Nat.xor_self, Nat.xor_zero, Nat.zero_xor] at this
    exact this
  · rintro rfl
    exact Nat.xor_self a
/-- The step on numbers of any size. -/
def FN (z : Nat) : Nat := if z % 2 = 1 then (z / 2) ^^^ 2197175160 else z / 2
def FNs : Nat → Nat → Nat
  | 0, z => z
  | j + 1, z => FNs j (FN z)
theorem FN_xor (a b : Nat) : FN (a ^^^ b) = FN a ^^^ FN b := by
  have h1 : (a ^^^ b) / 2 = a / 2 ^^^ b / 2 := by
    have e : ∀ n : Nat, n / 2 = n >>> 1 := fun n => by rw [Nat.shiftRight_eq_div_pow]
    rw [e, e, e, Nat.shiftRight_xor_distrib]
  have h2 : (a ^^^ b) % 2 = (a % 2) ^^^ (b % 2) := by
    have := Nat.xor_mod_two_pow (a := a) (b := b) (n := 1)
    simpa using this
  unfold FN
  rw [h1, h2]
  have ha : a % 2 = 0 ∨ a % 2 = 1 := by omega
  have hb : b % 2 = 0 ∨ b % 2 = 1 := by omega
  rcases ha with ha | ha <;> rcases hb with hb | hb <;> simp [ha, hb]
  · ac_rfl
  · ac_rfl
  · rw [show a / 2 ^^^ 2197175160 ^^^ (b / 2 ^^^ 2197175160) = a / 2 ^^^ b / 2 ^^^ (2197175160 ^^^ 2197175160) by ac_rfl]
    simp
theorem FNs_xor (j : Nat) : ∀ a b, FNs j (a ^^^ b) = FNs j a ^^^ FNs j b := by
  induction j with
  | zero => intro a b; rfl
  | succ j ih => intro a b; simp only [FNs]; rw [FN_xor, ih]
theorem FNs_add (i j : Nat) : ∀ z, FNs (i + j) z = FNs j (FNs i z) := by
  induction i with
  | zero => intro z; simp [FNs]
  | succ i ih => intro z; rw [show i + 1 + j = (i + j) + 1 by omega]; simp only [FNs]; exact ih _
theorem FN_zero (j : Nat) : FNs j 0 = 0 := by
  induction j with
  | zero => rfl
  | succ j ih => simp only [FNs]; rw [show FN 0 = 0 from rfl, ih]
theorem FNs_shift (k : Nat) : ∀ u, FNs k (u * 2 ^ k) = u := by
  induction k with
  | zero => intro u; simp [FNs]
  | succ k ih =>
    intro u
    have h : FN (u * 2 ^ (k + 1)) = u * 2 ^ k := by
      unfold FN
      rw [Nat.pow_succ, ← Nat.mul_assoc, if_neg (by omega)]
      omega
    simp only [FNs]
    rw [h, ih]
theorem FN_small (z : Nat) (h0 : z ≠ 0) (h1 : z < 4294967296) : FN z ≠ 0 ∧ FN z < 4294967296 := by
  unfold FN
  split
  · have hx : z / 2 ^^^ 2197175160 < 2 ^ 32 := Nat.xor_lt_two_pow (by omega) (by omega)
    refine ⟨fun h => ?_, by omega⟩
    have := (xor_zero_iff _ _).1 h
    omega
  · omega
theorem FNs_small (j : Nat) : ∀ z, z ≠ 0 → z < 4294967296 → FNs j z ≠ 0 := by
  induction j with
  | zero => intro z h _; exact h
  | succ j ih => intro z h0 h1; have := FN_small z h0 h1; exact ih _ this.1 this.2
theorem bitS_toNat (x : W) : (bitS x).toNat = FN x.toNat := by
  unfold bitS FN
  split <;> simp [BitVec.toNat_ushiftRight, Nat.shiftRight_eq_div_pow]
theorem bitN_toNat (j : Nat) (x : W) : (bitN j x).toNat = FNs j x.toNat := by
  induction j with
  | zero => rfl
  | succ j ih => simp only [bitN]; rw [bitS_toNat, ih, ← show FNs 1 (FNs j x.toNat) = FN (FNs j x.toNat) from rfl, ← FNs_add]
theorem crcB_toNat (x : W) (b : UInt8) : (crcB x b).toNat = FNs 8 (x.toNat ^^^ b.toNat) := by
  unfold crcB
  rw [← bit8, bitN_toNat, BitVec.toNat_xor]
  have : (b2w b).toNat = b.toNat := by unfold b2w; rw [BitVec.toNat_ofNat, Nat.mod_eq_of_lt]; have := b.toNat_lt; omega
  rw [this]
/-- The list r one number, the first byte lowest. -/
def VN : List UInt8 → Nat
  | [] => 0
  | b :: l => b.toNat + 256 * VN l
theorem VN_cons (b : UInt8) (l : List UInt8) : VN (b :: l) = b.toNat ^^^ (VN l * 2 ^ 8) := by
  have hb := b.toNat_lt
  have h := Nat.two_pow_add_eq_or_of_lt (i := 8) hb (VN l)
  simp only [VN]
  rw [show b.toNat + 256 * VN l = 2 ^ 8 * VN l + b.toNat by omega, h]
  apply Nat.eq_of_testBit_eq
  intro i
  rw [Nat.testBit_or, Nat.testBit_xor, Nat.mul_comm (VN l), Nat.testBit_two_pow_mul]
  by_cases hi : 8 ≤ i
  · have : b.toNat.testBit i = false := Nat.testBit_lt_two_pow (Nat.lt_of_lt_of_le hb (Nat.pow_le_pow_right (by decide) hi))
    simp [this]
  · simp [hi]
theorem fold_toNat : ∀ (l : List UInt8) (x : W), (l.foldl crcB x).toNat = FNs (8 * l.length) (x.toNat ^^^ VN l)
  | [], x => by simp [VN, FNs]
  | b :: l, x => by
    rw [List.foldl_cons, fold_toNat l (crcB x b), crcB_toNat, VN_cons, List.length_cons, show 8 * (l.length + 1) = 8 + 8 * l.length by omega, FNs_add]
    rw [← Nat.xor_assoc, FNs_xor 8 (x.toNat ^^^ b.toNat), FNs_shift]
theorem crcW_ne (a b : List UInt8) (hl : a.length = b.length) (at_ u : Nat) (h : VN b = VN a ^^^ (u * 2 ^ at_)) (hu : u < 4294967296) (hat : u ≠ 0 → at_ ≤ 8 * a.length) : (crcW a = crcW b) ↔ u = 0 := by
  have key : (a.foldl crcB (BitVec.allOnes 32)).toNat ^^^ (b.foldl crcB (BitVec.allOnes 32)).toNat = FNs (8 * a.length) (u * 2 ^ at_) := by
    rw [fold_toNat, fold_toNat, ← hl, ← FNs_xor, h]
    congr 1
    rw [show (BitVec.allOnes 32).toNat ^^^ VN a ^^^ ((BitVec.allOnes 32).toNat ^^^ (VN a ^^^ u * 2 ^ at_)) = ((BitVec.allOnes 32).toNat ^^^ (BitVec.allOnes 32).toNat) ^^^ (VN a ^^^ VN a) ^^^ u * 2 ^ at_ by ac_rfl]
    simp
  have hiff : crcW a = crcW b ↔ FNs (8 * a.length) (u * 2 ^ at_) = 0 := by
    rw [← key, xor_zero_iff]
    unfold crcW
    constructor
    · intro he
      have := congrArg (fun z => (~~~ z).toNat) he
      simpa using this
    · intro he
      rw [BitVec.eq_of_toNat_eq he]
  rw [hiff]
  constructor
  · intro h0
    by_cases hz : u = 0
    · exact hz
    · exfalso
      have := hat hz
      rw [show 8 * a.length = at_ + (8 * a.length - at_) by omega, FNs_add, FNs_shift] at h0
      exact FNs_small _ u hz hu h0
  · intro hz
    subst hz
    rw [Nat.zero_mul, FN_zero]
/-- One bit turned over. -/
theorem VN_set : ∀ (l : List UInt8) (j : Nat) (hj : j < l.length) (x : UInt8), VN (l.set j x) = VN l ^^^ ((l[j].toNat ^^^ x.toNat) * 2 ^ (8 * j))
  | b :: l, 0, _, x => by
    rw [List.set_cons_zero, VN_cons, VN_cons]
    simp
    rw [show b.toNat ^^^ VN l * 256 ^^^ (b.toNat ^^^ x.toNat) = (b.toNat ^^^ b.toNat) ^^^ (x.toNat ^^^ VN l * 256) by ac_rfl]
    simp
  | b :: l, j + 1, hj, x => by
    rw [List.set_cons_succ, VN_cons, VN_cons, VN_set l j (by simpa using hj) x, List.getElem_cons_succ, Nat.xor_assoc]
    congr 1
    rw [show 8 * (j + 1) = 8 * j + 8 by omega, Nat.pow_add, ← Nat.mul_assoc, ← Nat.shiftLeft_eq _ 8, ← Nat.shiftLeft_eq _ 8, ← Nat.shiftLeft_eq _ 8, Nat.shiftLeft_xor_distrib]
end Go.Proofs.YtbaeddppihjgfaaDoor.Sg
