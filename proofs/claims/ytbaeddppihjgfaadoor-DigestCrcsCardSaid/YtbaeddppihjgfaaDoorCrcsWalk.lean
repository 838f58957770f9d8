/- The walk of the law DigestCrcs: it returns true at every list, in every memory that holds the table. -/
import Derived.Lib.SlBytesConst
import Derived.Test.YtbaeddppihjgfaaDoorCrcRef
import Derived.Test.YtbaeddppihjgfaaDoorRoom
namespace Go.Proofs.YtbaeddppihjgfaaDoor.Sg
open Go Go.RowKit Go.Proofs.YtbaeddppihjgfaaDoorW.PrintWords
set_option linter.unusedVariables false
def nineL : List UInt8 := [49, 50, 51, 52, 53, 54, 55, 56, 57]
theorem nine_crc : un (crcW nineL) = 3808858755 := by decide +kernel
theorem TurnsAt.fr {S : Nat → Prop} {w w' : World} (h : TurnsAt w) (hf : Fr S w w') (hn : ¬ S 0) : TurnsAt w' := fun j hj => hf.cell (h j hj) hn
theorem TurnsAt.lt {w : World} (h : TurnsAt w) : 0 < w.heap.size := World.block_lt_of_cell? w _ (h 0 (by decide))
abbrev nineC : Array Value := #[.int .u8 49, .int .u8 50, .int .u8 51, .int .u8 52, .int .u8 53, .int .u8 54, .int .u8 55, .int .u8 56, .int .u8 57]
theorem nine_reads (w : World) : Rb (w.alloc (.cells nineC 5 (9, 10))) (some ⟨w.heap.size, 0, none⟩) nineL := by
  refine Rb_of_cells (by decide) (fun j hj => ?_)
  rw [World.cell?_alloc_mark]
  have : j = 0 ∨ j = 1 ∨ j = 2 ∨ j = 3 ∨ j = 4 ∨ j = 5 ∨ j = 6 ∨ j = 7 ∨ j = 8 := by simp [nineL] at hj; omega
  rcases this with rfl | rfl | rfl | rfl | rfl | rfl | rfl | rfl | rfl <;> rfl
theorem nine_calls (w : World) (A : Option Addr) (hr : Rb w A nineL) (hT : TurnsAt w) :
    Calls Tryd.prog 18 #[.slice A 9 9] w fun e w' => e = .returned (.int .i64 3808858755) ∧ w = w' :=
  (crc_calls nineL A 9 w hr hT).mono fun e w' ⟨he, hw⟩ => ⟨by rw [he, nine_crc], hw⟩
set_option maxRecDepth 100000 in
set_option maxHeartbeats 2000000 in
theorem crcs_walk (w : World) (l : List UInt8) (A : Option Addr) (c : Nat) (hr : Rb w A l) (hc : l.length ≤ c) (hl : l.length ≤ 140737488351232) (hT : TurnsAt w) :
    Calls Tryd.prog 3 #[.slice A l.length c] w fun e w' => e = .returned (.bool true) ∧ Fr No w w' := by
  have HR := Aside0.mk hr
  have HT := Aside0.mk hT
  clear hr hT
  have hcv := fun (w : World) (C : Array Value) (n c : Nat) => Lib.run_convert_bytes_const (P := Tryd.prog) w 22 5 C n c Tryd.underlying22 Tryd.underlying5
  go_enter Tryd.func3, Tryd.ntmps3
  go_wp2_with fail
  refine (roomy_calls l A c _ HR.out hl).mono ?_
  rintro e w1 ⟨g, rfl, hg, hm, hf⟩
  have HG := Aside0.mk hg; have HM := Aside0.mk hm; have HF := Aside0.mk hf
  clear hg hm hf
  go_wp2_with fail
  have HF1 : Aside0 (Fr No w (w1.alloc (.cells nineC 5 (9, 10)))) := ⟨HF.out.alloc _⟩
  have HR1 := Aside0.mk (nine_reads w1)
  refine (nine_calls _ _ HR1.out (HT.out.fr HF1.out id)).mono ?_
  rintro e w2 ⟨rfl, rfl⟩
  have HM1 : Aside0 (Room (w1.alloc (.cells nineC 5 (9, 10))) g l) := ⟨HM.out.alloc _⟩
  have HT1 : Aside0 (TurnsAt (w1.alloc (.cells nineC 5 (9, 10)))) := ⟨HT.out.fr HF1.out id⟩
  clear HR1 HM HF
  generalize w1.alloc (.cells nineC 5 (9, 10)) = w2 at *
  go_wp2_with fail
  refine (crc_calls l _ _ _ (HM1.out.le hl) HT1.out).mono ?_
  rintro e w3 ⟨rfl, rfl⟩
  go_wp2_with fail
  refine (crcRef_calls l _ _ _ (C_fr HR.out HF1.out)).mono ?_
  rintro e w3 ⟨rfl, rfl⟩
  go_wp2_with fail
  refine (kept_calls l g _ _ _ HM1.out (C_fr HR.out HF1.out) hl).mono ?_
  rintro e w3 ⟨rfl, rfl⟩
  go_wp2_with fail
  refine (flipped_calls l g _ HM1.out hl).mono ?_
  rintro e w3 ⟨v, rfl, hv, hm, hf⟩
  obtain ⟨A1, c1, rfl, hc1, hr1⟩ := Kd.R_reads hv
  have HF3 : Aside0 (Fr No w w3) := ⟨HF1.out.trans hf (fun k hk => .inr (by subst hk; exact HG.out))⟩
  have HM3 := Aside0.mk hm; have HR3 := Aside0.mk hr1
  have HT3 : Aside0 (TurnsAt w3) := ⟨HT.out.fr HF3.out id⟩
  clear hv hm hf hr1 HM1 HT1 HF1
  have hll : (l.map flip1).length = l.length := by simp
  have hl2 : (l.map flip1).length ≤ 140737488351232 := by simpa using hl
  rw [bi_length] at *
  rw [← hll]
  clear hll
  generalize l.map flip1 = m at *
  go_wp2_with fail
  refine (crc_calls m _ _ _ (HM3.out.le hl2) HT3.out).mono ?_
  rintro e w4 ⟨rfl, rfl⟩
  go_wp2_with fail
  refine (crcRef_calls m _ _ _ HR3.out).mono ?_
  rintro e w4 ⟨rfl, rfl⟩
  go_wp2_with fail
  refine (kept_calls m g _ _ _ HM3.out HR3.out hl2).mono ?_
  rintro e w4 ⟨rfl, rfl⟩
  go_wp2
  go_ret
  exact ⟨rfl, HF3.out⟩
end Go.Proofs.YtbaeddppihjgfaaDoor.Sg
