/- Frames: what they are, and the walks of four and Frame, the program's and the reference's. -/
import Derived.Test.YtbaeddppihjgfaaDoorRooms
namespace Go.Proofs.YtbaeddppihjgfaaDoor.Sg
open Go Go.RowKit Go.Proofs.YtbaeddppihjgfaaDoorW.PrintWords
set_option linter.unusedVariables false
def le4 (n : Nat) : List UInt8 := [UInt8.ofNat n, UInt8.ofNat (n / 256), UInt8.ofNat (n / 65536), UInt8.ofNat (n / 16777216)]
theorem le4_length (n : Nat) : (le4 n).length = 4 := rfl
theorem le4_bi (n : Nat) : bi (le4 n) = [(n : Int) % 256, (n : Int) / 256 % 256, (n : Int) / 65536 % 256, (n : Int) / 16777216 % 256] := by
  simp [le4, bi]
def bodyL (ls : List (List UInt8)) : List UInt8 := ls.flatMap fun l => le4 l.length ++ l
def frameL (ls : List (List UInt8)) : List UInt8 := le4 ls.length ++ bodyL ls
def frameN : List (List UInt8) → Nat
  | [] => 4
  | l :: ls => 4 + l.length + frameN ls
theorem frameN_append (ls ms : List (List UInt8)) : frameN (ls ++ ms) + 4 = frameN ls + frameN ms := by
  induction ls with
  | nil => simp [frameN]; omega
  | cons l ls ih => simp only [List.cons_append, frameN]; omega
theorem bodyL_length (ls : List (List UInt8)) : (bodyL ls).length + 4 = frameN ls := by
  induction ls with
  | nil => rfl
  | cons l ls ih =>
    unfold bodyL at *
    simp only [List.flatMap_cons, List.length_append, le4_length, frameN]
    omega
theorem frameL_length (ls : List (List UInt8)) : (frameL ls).length = frameN ls := by
  unfold frameL
  rw [List.length_append, le4_length, ← bodyL_length]; omega
theorem bodyL_succ (ls : List (List UInt8)) (k : Nat) (hk : k < ls.length) : bodyL (ls.take (k + 1)) = bodyL (ls.take k) ++ le4 ls[k].length ++ ls[k] := by
  unfold bodyL
  rw [List.take_succ_eq_append_getElem hk, List.flatMap_append]
  simp
theorem frameN_succ (ls : List (List UInt8)) (k : Nat) (hk : k < ls.length) : frameN (ls.take (k + 1)) = frameN (ls.take k) + (4 + ls[k].length) := by
  have := frameN_append (ls.take k) [ls[k]]
  rw [← List.take_succ_eq_append_getElem hk] at this
  simp only [frameN] at this
  omega
theorem frameN_le (ls : List (List UInt8)) (k : Nat) : frameN (ls.take k) ≤ frameN ls := by
  have := frameN_append (ls.take k) (ls.drop k)
  rw [List.take_append_drop] at this
  have h4 : ∀ ms : List (List UInt8), 4 ≤ frameN ms := fun ms => by
    cases ms with
    | nil => simp [frameN]
    | cons _ _ => simp only [frameN]; omega
  have := h4 (ls.drop k)
  omega
def frameOk (ls : List (List UInt8)) : Bool := decide (ls.length ≤ 65536) && decide (frameN ls ≤ 67108864)
def frameB (ls : List (List UInt8)) : List UInt8 := if frameOk ls then frameL ls else []
def frameE (ls : List (List UInt8)) : Int := if frameOk ls then 0 else 2
set_option maxRecDepth 100000 in
set_option maxHeartbeats 1000000 in
theorem four_calls (n : Nat) (w : World) :
    Calls Tryd.prog 69 #[.int .i64 (n : Int)] w fun e w' => e = .returned (.slice (some ⟨w.heap.size, 0, none⟩) 4 4) ∧ Rb w' (some ⟨w.heap.size, 0, none⟩) (le4 n) ∧ Fr No w w' := by
  have HB := Aside0.mk (le4_bi n)
  have HR := Aside0.mk (lit_reads w (le4 n) (by rw [le4_length]; decide))
  rw [HB.out] at HR
  go_enter Tryd.func69, Tryd.ntmps69
  go_wp2
  go_ret
  exact ⟨rfl, HR.out, (Fr.refl No w).alloc _⟩
set_option maxRecDepth 100000 in
set_option maxHeartbeats 1000000 in
theorem refFour_calls (n : Nat) (wb w : World) (hF : Fr No wb w) (v : Value) (xs : List Int) (hm : Mine w wb.heap.size v xs) (hl : xs.length + 4 ≤ 140737488355328) :
    Calls Tryd.prog 81 #[v, .int .i64 (n : Int)] w fun e w' => ∃ v', e = .returned v' ∧ Mine w' wb.heap.size v' (xs ++ bi (le4 n)) ∧ Fr No wb w' := by
  have HM0 := Aside0.mk hm; have HF0 := Aside0.mk hF; have HL := Aside0.mk hl
  have HB := Aside0.mk (le4_bi n)
  clear hm hF hl
  go_enter Tryd.func81, Tryd.ntmps81
  go_wp2
  go_loopw [0, 5] (fun v i wr => ∃ k : Nat, k ≤ 4 ∧ i = .int .i64 k ∧ Aside0 (Mine wr wb.heap.size v (xs ++ (bi (le4 n)).take k)) ∧ Aside0 (Fr No wb wr)) (fun _ i _ => 4 - (intOf i).toNat)
  case atStart => exact ⟨0, by omega, rfl, ⟨by simpa using HM0.out⟩, HF0⟩
  case round =>
    clear HM0 HF0
    obtain ⟨k, hk, rfl, HM, HF⟩ := hrel
    by_cases hlt : k < 4
    · have HT : Aside0 ((bi (le4 n)).take k ++ [(n : Int) / 2 ^ (8 * k) % 256] = (bi (le4 n)).take (k + 1)) := ⟨by
        rw [HB.out]
        match k, hlt with
        | 0, _ => simp
        | 1, _ => rfl
        | 2, _ => rfl
        | 3, _ => rfl⟩
      have HLL : Aside0 ((xs ++ (bi (le4 n)).take k).length + 1 ≤ 140737488355328) := ⟨by have := HL.out; rw [List.length_append, List.length_take, bi_length, le4_length]; omega⟩
      go_wp2_with (at_builtin; refine app_byte (w0 := wb) rfl (.tmp 10) (.tmp 16) 22 rfl Tryd.underlying22 infoU8 u0 (xs ++ (bi (le4 n)).take k) ((n : Int) / 2 ^ (8 * k) % 256) rfl rfl HM.out HF.out HLL.out ?_; intro v1 w1 hm hf hg)
      rw [List.append_assoc, HT.out] at hm
      exact ⟨⟨k + 1, by omega, by go_num, ⟨hm⟩, ⟨hf⟩⟩, by simp [intOf]; omega⟩
    · obtain rfl : k = 4 := by omega
      have HMF : Aside0 (Mine wr wb.heap.size u0 (xs ++ bi (le4 n))) := ⟨by have := HM.out; rwa [List.take_of_length_le (by rw [bi_length, le4_length]; exact Nat.le_refl _)] at this⟩
      clear HM
      go_wp2
      go_ret
      exact ⟨_, rfl, HMF.out, HF.out⟩
end Go.Proofs.YtbaeddppihjgfaaDoor.Sg
