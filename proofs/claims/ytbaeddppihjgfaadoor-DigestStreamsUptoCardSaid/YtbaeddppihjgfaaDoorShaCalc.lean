/- SHA-256 of a fixed list, reckoned by the kernel a block at a time. No program. -/
import Derived.Test.YtbaeddppihjgfaaDoorSha
import Derived.Test.YtbaeddppihjgfaaDoorHexLaw
namespace Go.Proofs.YtbaeddppihjgfaaDoor.Sg
open Go Go.RowKit
set_option linter.unusedVariables false
/-- The words so far, the last one first. -/
def wordL (m : Nat → BitVec 32) (t : Nat) (l : List (BitVec 32)) : BitVec 32 :=
  if t < 16 then m t else l.getD 15 0 + (sig1 (l.getD 1 0) + l.getD 6 0 + sig0 (l.getD 14 0))
def wordsL (m : Nat → BitVec 32) : Nat → List (BitVec 32)
  | 0 => []
  | t + 1 => wordL m t (wordsL m t) :: wordsL m t
theorem wordsL_at (m : Nat → BitVec 32) : ∀ t j, j < t → (wordsL m t).getD j 0 = wt m (t - 1 - j) := by
  intro t
  induction t using Nat.strongRecOn with
  | _ t ih =>
    intro j hj
    cases t with
    | zero => omega
    | succ t =>
      cases j with
      | succ j =>
        have := ih t (by omega) j (by omega)
        simp only [wordsL, List.getD_cons_succ]
        rw [this]
        congr 1; omega
      | zero =>
        simp only [wordsL, List.getD_cons_zero, wordL]
        rw [show t + 1 - 1 - 0 = t by omega]
        by_cases h : t < 16
        · rw [if_pos h, wt_low _ _ h]
        · rw [if_neg h, wt_high _ _ h, ih t (by omega) 15 (by omega), ih t (by omega) 1 (by omega), ih t (by omega) 6 (by omega), ih t (by omega) 14 (by omega)]
          rw [show t - 1 - 15 = t - 16 by omega, show t - 1 - 1 = t - 2 by omega, show t - 1 - 6 = t - 7 by omega, show t - 1 - 14 = t - 15 by omega]
def rndsC (s : S8) (m : Nat → BitVec 32) : Nat → S8 × List (BitVec 32)
  | 0 => (s, [])
  | t + 1 => (rnd (rndsC s m t).1 (kL.getD t 0) (wordL m t (rndsC s m t).2), wordL m t (rndsC s m t).2 :: (rndsC s m t).2)
theorem rndsC_eq (s : S8) (m : Nat → BitVec 32) : ∀ t, rndsC s m t = (rnds s m t, wordsL m t)
  | 0 => rfl
  | t + 1 => by
    rw [rndsC, rndsC_eq s m t]
    simp only [rnds, wordsL]
    have h := wordsL_at m (t + 1) 0 (by omega)
    simp only [wordsL, List.getD_cons_zero] at h
    rw [h]
    rfl
def compC (s : S8) (m : Nat → BitVec 32) : S8 := addS s (rndsC s m 64).1
theorem comp_eq (s : S8) (m : Nat → BitVec 32) : comp s m = compC s m := by unfold comp compC; rw [rndsC_eq]
theorem S8.of_list {s v : S8} (h : s.list = v.list) : s = v := by
  cases s; cases v
  simp only [S8.list, List.cons.injEq] at h
  simp [h]
def abcL : List UInt8 := [97, 98, 99]
set_option maxRecDepth 100000 in
theorem abc_block : (compC S8.init (blockW (abcL ++ padOf 3))).list = [0xba7816bf, 0x8f01cfea, 0x414140de, 0x5dae2223, 0xb00361a3, 0x96177a9c, 0xb410ff61, 0xf20015ad] := by decide +kernel
theorem abc_sha : sha abcL = outS ⟨0xba7816bf, 0x8f01cfea, 0x414140de, 0x5dae2223, 0xb00361a3, 0x96177a9c, 0xb410ff61, 0xf20015ad⟩ := by
  unfold sha
  rw [absorb_long _ _ (by decide), show abcL.length = 3 from rfl, comp_eq, S8.of_list (v := ⟨0xba7816bf, 0x8f01cfea, 0x414140de, 0x5dae2223, 0xb00361a3, 0x96177a9c, 0xb410ff61, 0xf20015ad⟩) abc_block, absorb_short _ _ (by decide)]
def abcHex : List UInt8 := [98, 97, 55, 56, 49, 54, 98, 102, 56, 102, 48, 49, 99, 102, 101, 97, 52, 49, 52, 49, 52, 48, 100, 101, 53, 100, 97, 101, 50, 50, 50, 51, 98, 48, 48, 51, 54, 49, 97, 51, 57, 54, 49, 55, 55, 97, 57, 99, 98, 52, 49, 48, 102, 102, 54, 49, 102, 50, 48, 48, 49, 53, 97, 100]
theorem abc_hex : hexL (sha abcL) = abcHex := by rw [abc_sha]; decide +kernel
end Go.Proofs.YtbaeddppihjgfaaDoor.Sg
