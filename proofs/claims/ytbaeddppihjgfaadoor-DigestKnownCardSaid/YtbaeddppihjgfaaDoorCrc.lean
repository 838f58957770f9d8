/- The walk of digest.Crc: what it answers is the sum by half bytes of the table that the program lays. -/
import Derived.Test.YtbaeddppihjgfaaDoorProg
import Derived.WalkKit
import Derived.KernelRfl
import Derived.Deep.QuietTactic
import Derived.BigQuiet
import Derived.Test.YtbaeddppihjgfaaDoorBase
namespace Go.Proofs.YtbaeddppihjgfaaDoor.Sg
open Go Go.RowKit Go.Proofs.YtbaeddppihjgfaaDoorW.PrintWords
set_option linter.unusedVariables false
def turnsL : List W := [0x00000000, 0x105ec76f, 0x20bd8ede, 0x30e349b1, 0x417b1dbc, 0x5125dad3, 0x61c69362, 0x7198540d, 0x82f63b78, 0x92a8fc17, 0xa24bb5a6, 0xb21572c9, 0xc38d26c4, 0xd3d3e1ab, 0xe330a81a, 0xf36e6f75]
def turnsW (x : W) : W := turnsL.getD x.toNat 0
def nib (x : W) : W := turnsW (x &&& 15#32) ^^^ (x >>> 4)
def nibN : Nat → W → W
  | 0, x => x
  | j + 1, x => nib (nibN j x)
def crcB (x : W) (b : UInt8) : W := nib (nib (x ^^^ b2w b))
def crcW (l : List UInt8) : W := ~~~ (l.foldl crcB (BitVec.allOnes 32))
/-- The table as the program's variable holds it. -/
def TurnsAt (w : World) : Prop := ∀ j, j < 16 → w.cell? ⟨0, j, none⟩ = some (.int .u32 (un (turnsL.getD j 0)))
theorem TurnsAt.below {w w' : World} (h : TurnsAt w) (hb : Below w.heap.size w w') : TurnsAt w' := fun j hj => (hb.cell (p := ⟨0, j, none⟩) (World.block_lt_of_cell? w _ (h j hj))).trans (h j hj)
theorem and15_lt (x : W) : (x &&& 15#32).toNat < 16 := by
  rw [BitVec.toNat_and]; exact Nat.lt_of_le_of_lt Nat.and_le_right (by decide)
attribute [local go_sem] u_xor u_and u_not u_not' u_shr u_div16 u_and15 u_wrap u_wrap' u_signed i_wrap i_wrap2
set_option maxHeartbeats 1000000 in
theorem crc_calls (l : List UInt8) (A : Option Addr) (c : Nat) (w : World) (hr : Rb w A l) (hT : TurnsAt w) :
    Calls Tryd.prog 18 #[.slice A l.length c] w fun e w' => e = .returned (.int .i64 (un (crcW l))) ∧ w = w' := by
  have hl := Rb_le hr
  have HR := Aside0.mk hr
  have HT := Aside0.mk hT
  clear hr hT
  go_enter Tryd.func18, Tryd.ntmps18
  go_wp2
  go_loop [3, 8] (fun r i => ∃ k : Nat, k ≤ l.length ∧ i = .int .i64 k ∧ r = .int .u32 (un ((l.take k).foldl crcB (BitVec.allOnes 32)))) (fun _ i => l.length - (intOf i).toNat)
  case atStart => exact ⟨0, Nat.zero_le _, rfl, by rfl⟩
  case round =>
    obtain ⟨k, hk, rfl, rfl⟩ := hrel
    by_cases hlt : k < l.length
    · obtain ⟨ad, hA, hcell⟩ := C_byte HR.out k hlt
      subst hA
      have hcr : (l.take (k + 1)).foldl crcB (BitVec.allOnes 32) = nibN 2 ((l.take k).foldl crcB (BitVec.allOnes 32) ^^^ b2w l[k]) := by
        rw [List.take_succ_eq_append_getElem hlt, List.foldl_append]; rfl
      generalize (l.take k).foldl crcB (BitVec.allOnes 32) = x at *
      have HCR := Aside0.mk hcr; clear hcr
      go_wp2
      go_loop [3, 16] (fun r i => ∃ j : Nat, j ≤ 2 ∧ i = .int .i64 j ∧ r = .int .u32 (un (nibN j (x ^^^ b2w l[k])))) (fun _ i => 2 - (intOf i).toNat)
      case atStart => exact ⟨0, Nat.zero_le _, rfl, rfl⟩
      case round =>
        obtain ⟨j, hj, rfl, rfl⟩ := hrel
        by_cases hjt : j < 2
        · have hs : nibN (j + 1) (x ^^^ b2w l[k]) = turnsW (nibN j (x ^^^ b2w l[k]) &&& 15#32) ^^^ (nibN j (x ^^^ b2w l[k]) >>> 4) := rfl
          generalize nibN j (x ^^^ b2w l[k]) = y at *
          have HS := Aside0.mk hs; clear hs
          have hidx : w.cell? ⟨0, (un (y &&& 15#32)).toNat, none⟩ = some (.int .u32 (un (turnsW (y &&& 15#32)))) := HT.out _ (by have := and15_lt y; unfold un; omega)
          have hb0 := un_nonneg (y &&& 15#32)
          have hb1 : un (y &&& 15#32) < 16 := by have := and15_lt y; unfold un; omega
          go_wp2
          go_round
          case rel => exact ⟨j + 1, by omega, by go_num, by rw [HS.out]⟩
          case measure => simp [intOf]; omega
        · obtain rfl : j = 2 := by omega
          go_wp2
          go_round
          case rel => exact ⟨k + 1, by omega, by go_num, by rw [HCR.out]⟩
          case measure => simp [intOf]; omega
    · obtain rfl : k = l.length := by omega
      have hfin : l.take l.length = l := List.take_length
      rw [hfin] at *
      clear hfin
      go_wp2
      go_ret
      exact ⟨rfl, rfl⟩
end Go.Proofs.YtbaeddppihjgfaaDoor.Sg
