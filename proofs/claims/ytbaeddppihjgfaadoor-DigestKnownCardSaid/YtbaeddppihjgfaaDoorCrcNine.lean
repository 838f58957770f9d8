/- The sum of the nine digits, which every law of the sum asks first; and that the table stays where it is. -/
import Derived.Lib.SlBytesConst
import Derived.Laws.IdiomStrings
import Derived.Test.YtbaeddppihjgfaaDoorCrc
namespace Go.Proofs.YtbaeddppihjgfaaDoor.Sg
open Go Go.RowKit Go.Proofs.YtbaeddppihjgfaaDoorW.PrintWords
set_option linter.unusedVariables false
def nineL : List UInt8 := [49, 50, 51, 52, 53, 54, 55, 56, 57]
theorem nine_crc : un (crcW nineL) = 3808858755 := by decide +kernel
theorem TurnsAt.fr {S : Nat → Prop} {w w' : World} (h : TurnsAt w) (hf : Fr S w w') (hn : ¬ S 0) : TurnsAt w' := fun j hj => hf.cell (h j hj) hn
theorem TurnsAt.lt {w : World} (h : TurnsAt w) : 0 < w.heap.size := World.block_lt_of_cell? w _ (h 0 (by decide))
abbrev nineC : Array Value := #[.int .u8 49, .int .u8 50, .int .u8 51, .int .u8 52, .int .u8 53, .int .u8 54, .int .u8 55, .int .u8 56, .int .u8 57]
theorem nine_reads (w : World) : Rb (w.alloc (.cells nineC 5 (9, 10))) (some ⟨w.heap.size, 0, none⟩) nineL := by
  refine Rb_of_cells (by decide) (fun j hj => ?_)
  rw [World.cell?_alloc_mark]
  have : j = 0 ∨ j = 1 ∨ j = 2 ∨ j = 3 ∨ j = 4 ∨ j = 5 ∨ j = 6 ∨ j = 7 ∨ j = 8 := by simp [nineL] at hj; omega
  rcases this with rfl | rfl | rfl | rfl | rfl | rfl | rfl | rfl | rfl <;> rfl
theorem nine_calls (w : World) (A : Option Addr) (hr : Rb w A nineL) (hT : TurnsAt w) :
    Calls Tryd.prog 18 #[.slice A 9 9] w fun e w' => e = .returned (.int .i64 3808858755) ∧ w = w' :=
  (crc_calls nineL A 9 w hr hT).mono fun e w' ⟨he, hw⟩ => ⟨by rw [he, nine_crc], hw⟩
theorem crc_at (l : List UInt8) (n : Nat) (hn : l.length = n) (A : Option Addr) (c : Nat) (w : World) (hr : Rb w A l) (hT : TurnsAt w) :
    Calls Tryd.prog 18 #[.slice A n c] w fun e w' => e = .returned (.int .i64 (un (crcW l))) ∧ w = w' := by subst hn; exact crc_calls l A c w hr hT
end Go.Proofs.YtbaeddppihjgfaaDoor.Sg
