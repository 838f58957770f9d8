/- The walk of the laws' fixed question. -/
import Derived.Lib.SlBytesConst
import Derived.Laws.IdiomStrings
import Derived.Test.YtbaeddppihjgfaaDoorMgRef
import Derived.Test.YtbaeddppihjgfaaDoorMgHex
import Derived.Test.YtbaeddppihjgfaaDoorMgUnhex
namespace Go.Proofs.YtbaeddppihjgfaaDoor.Sg
open Go Go.RowKit Go.Proofs.YtbaeddppihjgfaaDoorW.PrintWords
set_option linter.unusedVariables false
theorem const_reads (w : World) (l : List UInt8) (hl : l.length ≤ 9223372036854775807) (fr : Nat × Nat) : Rb (w.alloc (.cells (nums .u8 (bi l)).toArray 5 fr)) (some ⟨w.heap.size, 0, none⟩) l := by
  refine Rb_of_cells hl (fun j hj => ?_)
  rw [World.cell?_alloc_mark]
  simp [nums, bi, List.getElem?_eq_getElem hj]
abbrev abcC : Array Value := #[.int .u8 97, .int .u8 98, .int .u8 99]
theorem abc_reads (w : World) : Rb (w.alloc (.cells abcC 5 (3, 4))) (some ⟨w.heap.size, 0, none⟩) abcL := const_reads w abcL (by simp [abcL]) (3, 4)
set_option maxRecDepth 100000 in
set_option maxHeartbeats 4000000 in
theorem head_calls (w : World) (hK : KAt w) (hF : FirstAt w) :
    Calls Tryd.prog 25 #[] w fun e w' => e = .returned (.bool true) ∧ Fr No w w' := by
  have HK := Aside0.mk hK; have HF := Aside0.mk hF
  clear hK hF
  have HR := Aside0.mk (abc_reads w)
  have H1 : Aside0 (Fr No w (w.alloc (.cells abcC 5 (3, 4)))) := ⟨(Fr.refl No w).alloc _⟩
  have hcv := fun (w : World) (C : Array Value) (n c : Nat) => Lib.run_convert_bytes_const (P := Tryd.prog) w 22 5 C n c Tryd.underlying22 Tryd.underlying5
  go_enter Tryd.func25, Tryd.ntmps25
  go_wp2_with fail
  generalize w.alloc _ = w1 at HR H1 ⊢
  refine (digest_calls abcL _ 3 w1 (by simp [abcL]) HR.out (by simp [abcL]) (HK.out.fr H1.out id) (HF.out.fr H1.out id)).mono ?_
  rintro e w2 ⟨v, rfl, hm, hf⟩
  obtain ⟨D, cd, rfl, hcd, hrd⟩ := hm.reads
  have HRD := Aside0.mk hrd
  have H2 : Aside0 (Fr No w w2) := ⟨H1.out.then_ hf⟩
  have HX := Aside0.mk abc_hex
  have HLN := Aside0.mk (sha_length abcL)
  clear hm hf hrd
  generalize sha abcL = d at *
  go_wp2_with fail
  refine (refHex_calls d D cd w2 HRD.out (by rw [HLN.out]; decide)).mono ?_
  rintro e w3 ⟨rfl, hf⟩
  have H3 : Aside0 (Fr No w w3) := ⟨H2.out.then_ hf⟩
  rw [HX.out]
  unfold abcHex
  go_wp2
  go_ret
  exact ⟨rfl, H3.out⟩
end Go.Proofs.YtbaeddppihjgfaaDoor.Sg
