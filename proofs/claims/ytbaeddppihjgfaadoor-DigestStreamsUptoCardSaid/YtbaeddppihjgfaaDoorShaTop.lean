/- The walks of digest.Sum. -/
import Derived.Test.YtbaeddppihjgfaaDoorShaSum
namespace Go.Proofs.YtbaeddppihjgfaaDoor.Sg
open Go Go.RowKit Go.Proofs.YtbaeddppihjgfaaDoorW.PrintWords
set_option linter.unusedVariables false
theorem FirstAt.fr {S : Nat → Prop} {w w' : World} (h : FirstAt w) (hf : Fr S w w') (hn : ¬ S 1) : FirstAt w' := fun j hj => hf.cell (h j hj) hn
theorem FirstAt.lt {w : World} (h : FirstAt w) : 1 < w.heap.size := World.block_lt_of_cell? w _ (h 0 (by decide))
set_option maxRecDepth 100000 in
set_option maxHeartbeats 4000000 in
theorem digestX_calls (b : List UInt8) (A : Option Addr) (c : Nat) (w : World) (hbc : b.length ≤ c) (hr : Rb w A b) (hl : b.length ≤ 140737488352256) (hK : KAt w) (hF : FirstAt w) :
    Calls Tryd.prog 22 #[.slice A b.length c] w fun e w' => ∃ v, e = .returned v ∧ Mine w' w.heap.size v (bi (sha b)) ∧ Fr No w w' := by
  have HR := Aside0.mk hr; have HK := Aside0.mk hK; have HF := Aside0.mk hF; have HL := Aside0.mk hl
  clear hr hK hF hl
  go_enter Tryd.func22, Tryd.ntmps22
  go_wp2_with fail
  refine (new_calls _ HF.out).mono ?_
  rintro e w1 ⟨rfl, h1, hf1⟩
  have HH1 := Aside0.mk h1; have HF1 := Aside0.mk hf1
  clear h1 hf1
  go_wp2_with fail
  refine (add_calls w1 w.heap.size [] _ HH1.out b A c hbc (fun w' hf => C_fr HR.out (HF1.out.trans hf (fun k hk => .inr (by
    rcases hk with hk | hk
    · omega
    · simp [Value.ownBlock] at hk)))) (by have := HL.out; simp only [List.length_nil]; omega) (HK.out.fr HF1.out id) (by have := HK.out.lt; omega) (by simp [Value.ownBlock])).mono ?_
  rintro e w2 ⟨rv2, rfl, h2, _, hf2⟩
  have HH2 : Aside0 (HashOf w2 w.heap.size b rv2) := ⟨h2⟩
  have HF2 : Aside0 (Fr No w w2) := ⟨HF1.out.trans hf2 (fun k hk => .inr (by
    rcases hk with hk | hk
    · omega
    · simp [Value.ownBlock] at hk))⟩
  clear h2 hf2
  go_wp2_with fail
  refine (sumX_calls w2 w.heap.size b rv2 HH2.out (HK.out.fr HF2.out id) HL.out).mono ?_
  rintro e w3 ⟨v, rfl, hm, hf⟩
  have HM : Aside0 (Mine w3 w.heap.size v (bi (sha b))) := ⟨hm.lower HF2.out.size⟩
  have HF3 : Aside0 (Fr No w w3) := ⟨HF2.out.then_ hf⟩
  clear hm hf
  go_wp2_with fail
  go_ret
  exact ⟨v, rfl, HM.out, HF3.out⟩
theorem digest_calls (b : List UInt8) (A : Option Addr) (c : Nat) (w : World) (hbc : b.length ≤ c) (hr : Rb w A b) (hl : b.length ≤ 140737488351232) (hK : KAt w) (hF : FirstAt w) :
    Calls Tryd.prog 22 #[.slice A b.length c] w fun e w' => ∃ v, e = .returned v ∧ Mine w' w.heap.size v (bi (sha b)) ∧ Fr No w w' :=
  digestX_calls b A c w hbc hr (by omega) hK hF
end Go.Proofs.YtbaeddppihjgfaaDoor.Sg
