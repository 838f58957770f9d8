/- The walk of sigilref3.Crc, and that it answers what digest.Crc answers: four turns by a bit are one by half a byte. -/
import Derived.Test.YtbaeddppihjgfaaDoorProg
import Derived.KernelRfl
import Derived.Test.YtbaeddppihjgfaaDoorCrc
namespace Go.Proofs.YtbaeddppihjgfaaDoor.Sg
open Go Go.RowKit Go.Proofs.YtbaeddppihjgfaaDoorW.PrintWords
set_option linter.unusedVariables false
def bitS (x : W) : W := if x.toNat % 2 = 1 then (x >>> 1) ^^^ 0x82f63b78#32 else x >>> 1
def bitN : Nat → W → W
  | 0, x => x
  | j + 1, x => bitS (bitN j x)
theorem i_poly (x : W) : bits .xor .i64 (un x) 2197175160 = un (x ^^^ 0x82f63b78#32) := i_xor x 0x82f63b78#32
/-! The step is linear. -/
theorem bitS_xor (x y : W) : bitS (x ^^^ y) = bitS x ^^^ bitS y := by
  have hx : ∀ z : W, (z.toNat % 2 = 1) ↔ z.getLsbD 0 = true := by
    intro z; rw [BitVec.getLsbD, Nat.testBit_zero]; simp
  unfold bitS
  simp only [hx, BitVec.getLsbD_xor]
  cases x.getLsbD 0 <;> cases y.getLsbD 0 <;> simp [BitVec.ushiftRight_xor_distrib] <;> (try ac_rfl)
  · rw [show x >>> 1 ^^^ 2197175160#32 ^^^ (y >>> 1 ^^^ 2197175160#32) = x >>> 1 ^^^ y >>> 1 ^^^ (2197175160#32 ^^^ 2197175160#32) by ac_rfl]
    simp
theorem bitN_xor (j : Nat) (x y : W) : bitN j (x ^^^ y) = bitN j x ^^^ bitN j y := by
  induction j with
  | zero => rfl
  | succ j ih => simp only [bitN]; rw [ih, bitS_xor]
theorem bit4_low : ∀ n : Fin 16, bitN 4 (BitVec.ofNat 32 n.val) = turnsL.getD n.val 0 := by decide +kernel
theorem bitS_even (x : W) (h : x.toNat % 2 = 0) : bitS x = x >>> 1 := by unfold bitS; rw [if_neg (by omega)]
theorem bit4_high (x : W) (h : x.toNat % 16 = 0) : bitN 4 x = x >>> 4 := by
  have e : ∀ n : Nat, (x >>> n).toNat = x.toNat / 2 ^ n := fun n => by rw [BitVec.toNat_ushiftRight, Nat.shiftRight_eq_div_pow]
  simp only [bitN]
  rw [bitS_even x (by omega), bitS_even (x >>> 1) (by rw [e]; omega), ← BitVec.shiftRight_add, bitS_even (x >>> (1 + 1)) (by rw [e]; omega), ← BitVec.shiftRight_add, bitS_even (x >>> (1 + 1 + 1)) (by rw [e]; omega), ← BitVec.shiftRight_add]
theorem split16 (x : W) : x = ((x >>> 4) <<< 4) ^^^ (x &&& 15#32) := by
  have h15 : ∀ i : Fin 32, (15#32).getLsbD i.val = decide (i.val < 4) := by decide
  apply BitVec.eq_of_getLsbD_eq
  intro i hi
  have := h15 ⟨i, hi⟩
  simp only [BitVec.getLsbD_xor, BitVec.getLsbD_and, BitVec.getLsbD_shiftLeft, BitVec.getLsbD_ushiftRight, this, hi]
  by_cases h4 : i < 4
  · simp [h4]
  · simp [h4, show 4 + (i - 4) = i by omega]
theorem bit4 (x : W) : bitN 4 x = nib x := by
  have h := bitN_xor 4 ((x >>> 4) <<< 4) (x &&& 15#32)
  rw [← split16] at h
  rw [h, bit4_high _ (by rw [BitVec.toNat_shiftLeft, BitVec.toNat_ushiftRight, Nat.shiftLeft_eq]; omega)]
  have hl := bit4_low ⟨(x &&& 15#32).toNat, and15_lt x⟩
  simp only [BitVec.ofNat_toNat, BitVec.setWidth_eq] at hl
  rw [hl]
  unfold nib turnsW
  rw [BitVec.xor_comm]
  congr 1
  apply BitVec.eq_of_toNat_eq
  simp only [BitVec.toNat_shiftLeft, BitVec.toNat_ushiftRight, Nat.shiftLeft_eq, Nat.shiftRight_eq_div_pow]
  have := x.isLt
  omega
theorem bitN_add (i j : Nat) (x : W) : bitN (i + j) x = bitN j (bitN i x) := by
  induction j with
  | zero => rfl
  | succ j ih => show bitS (bitN (i + j) x) = bitS (bitN j (bitN i x)); rw [ih]
theorem bit8 (x : W) : bitN 8 x = nib (nib x) := by rw [show (8 : Nat) = 4 + 4 from rfl, bitN_add, bit4, bit4]
theorem par_odd (x : W) (h : un x % 2 = 1) : bitS x = (x >>> 1) ^^^ 2197175160#32 := by
  unfold bitS; rw [if_pos (by unfold un at h; omega)]
theorem par_even (x : W) (h : ¬ un x % 2 = 1) : bitS x = x >>> 1 := by
  unfold bitS; rw [if_neg (by unfold un at h; omega)]
theorem i_ones' (x : W) : bits .xor .i64 (un x) 4294967295 = un (~~~ x) := i_not x
attribute [local go_sem] i_xor i_poly i_not u_div2 i_wrap i_wrap2
set_option maxHeartbeats 1000000 in
theorem crcRef_calls (l : List UInt8) (A : Option Addr) (c : Nat) (w : World) (hr : Rb w A l) :
    Calls Tryd.prog 19 #[.slice A l.length c] w fun e w' => e = .returned (.int .i64 (un (crcW l))) ∧ w = w' := by
  have hl := Rb_le hr
  have HR := Aside0.mk hr
  clear hr
  go_enter Tryd.func19, Tryd.ntmps19
  go_wp2
  go_loop [3, 4] (fun r i => ∃ k : Nat, k ≤ l.length ∧ i = .int .i64 k ∧ r = .int .i64 (un ((l.take k).foldl crcB (BitVec.allOnes 32)))) (fun _ i => l.length - (intOf i).toNat)
  case atStart => exact ⟨0, Nat.zero_le _, rfl, by rfl⟩
  case round =>
    obtain ⟨k, hk, rfl, rfl⟩ := hrel
    by_cases hlt : k < l.length
    · obtain ⟨ad, hA, hcell⟩ := C_byte HR.out k hlt
      subst hA
      have hcr : (l.take (k + 1)).foldl crcB (BitVec.allOnes 32) = bitN 8 ((l.take k).foldl crcB (BitVec.allOnes 32) ^^^ b2w l[k]) := by
        rw [List.take_succ_eq_append_getElem hlt, List.foldl_append, bit8]; rfl
      generalize (l.take k).foldl crcB (BitVec.allOnes 32) = x at *
      have HCR := Aside0.mk hcr; clear hcr
      go_wp2
      go_loop [3, 5] (fun r i => ∃ j : Nat, j ≤ 8 ∧ i = .int .i64 j ∧ r = .int .i64 (un (bitN j (x ^^^ b2w l[k])))) (fun _ i => 8 - (intOf i).toNat)
      case atStart => exact ⟨0, Nat.zero_le _, rfl, rfl⟩
      case round =>
        obtain ⟨j, hj, rfl, rfl⟩ := hrel
        by_cases hjt : j < 8
        · have hs : bitN (j + 1) (x ^^^ b2w l[k]) = bitS (bitN j (x ^^^ b2w l[k])) := rfl
          generalize bitN j (x ^^^ b2w l[k]) = y at *
          have HS := Aside0.mk hs; clear hs
          have hy0 := un_nonneg y
          by_cases hp : un y % 2 = 1
          · have HP := Aside0.mk (par_odd y hp)
            have hp2 : (un y % 2 == 1) = true := by simp [hp]
            clear hp
            go_wp2
            go_round
            case rel => exact ⟨j + 1, by omega, by go_num, by rw [HS.out, HP.out]⟩
            case measure => simp [intOf]; omega
          · have HP := Aside0.mk (par_even y hp)
            have hp2 : (un y % 2 == 1) = false := by simp [hp]
            clear hp
            go_wp2
            go_round
            case rel => exact ⟨j + 1, by omega, by go_num, by rw [HS.out, HP.out]⟩
            case measure => simp [intOf]; omega
        · obtain rfl : j = 8 := by omega
          go_wp2
          go_round
          case rel => exact ⟨k + 1, by omega, by go_num, by rw [HCR.out]⟩
          case measure => simp [intOf]; omega
    · obtain rfl : k = l.length := by omega
      have hfin : l.take l.length = l := List.take_length
      rw [hfin] at *
      clear hfin
      go_wp2
      go_ret
      exact ⟨rfl, rfl⟩
end Go.Proofs.YtbaeddppihjgfaaDoor.Sg
