/- The walk of the law DigestSums: it returns true at every list, in every memory that holds the tables. -/
import Derived.Test.YtbaeddppihjgfaaDoorHead
import Derived.Test.YtbaeddppihjgfaaDoorRoom
namespace Go.Proofs.YtbaeddppihjgfaaDoor.Sg
open Go Go.RowKit Go.Proofs.YtbaeddppihjgfaaDoorW.PrintWords
set_option linter.unusedVariables false
theorem Room.fr {S : Nat → Prop} {w w1 : World} {g : Nat} {l : List UInt8} (h : Room w g l) (hf : Fr S w w1) (hn : ¬ S g) : Room w1 g l := by
  unfold Room at *
  exact Blk.fr h hf hn
set_option maxRecDepth 100000 in
set_option maxHeartbeats 4000000 in
theorem sums_walk (w : World) (l : List UInt8) (A : Option Addr) (c : Nat) (hr : Rb w A l) (hc : l.length ≤ c) (hl : l.length ≤ 140737488351232) (hK : KAt w) (hF : FirstAt w) (hQ : KeysAt w) :
    Calls Tryd.prog 6 #[.slice A l.length c] w fun e w' => e = .returned (.bool true) ∧ Fr No w w' := by
  have HR := Aside0.mk hr; have HT := Aside0.mk (And.intro hK (And.intro hF hQ))
  clear hr hK hF hQ
  go_enter Tryd.func6, Tryd.ntmps6
  go_wp2_with fail
  refine (roomy_calls l A c _ HR.out hl).mono ?_
  rintro e w1 ⟨g, rfl, hg, hm, hf⟩
  have HG := Aside0.mk hg; have HM1 := Aside0.mk hm; have HF1 := Aside0.mk hf
  clear hg hm hf
  go_wp2_with fail
  refine (digest_calls l _ (l.length + 6) w1 (by omega) (HM1.out.le hl) hl (HT.out.1.fr HF1.out id) (HT.out.2.1.fr HF1.out id)).mono ?_
  rintro e w2 ⟨v, rfl, hm, hf⟩
  obtain ⟨D, cd, rfl, hcd, hrd⟩ := hm.reads
  have HD2 := Aside0.mk hrd
  have HF2 : Aside0 (Fr No w w2) := ⟨HF1.out.then_ hf⟩
  have HM2 : Aside0 (Room w2 g l) := ⟨HM1.out.fr hf id⟩
  clear hm hf hrd HM1 HF1
  go_wp2_with fail
  refine (refSum_calls l A c w2 (C_fr HR.out HF2.out) hl (HT.out.2.2.fr HF2.out id)).mono ?_
  rintro e w3 ⟨v, rfl, hm, hf⟩
  obtain ⟨E, ce, rfl, hce, hre⟩ := hm.reads
  have HE3 := Aside0.mk hre
  have HD3 : Aside0 (Rb w3 D (sha l)) := ⟨C_fr HD2.out hf⟩
  have HF3 : Aside0 (Fr No w w3) := ⟨HF2.out.then_ hf⟩
  have HM3 : Aside0 (Room w3 g l) := ⟨HM2.out.fr hf id⟩
  clear hm hf hre HM2 HF2 HD2 hcd hce
  generalize sha l = d at *
  go_wp2_with fail
  refine (same_calls d d D E cd ce w3 HD3.out HE3.out).mono ?_
  rintro e w4 ⟨rfl, rfl⟩
  go_wp2_with fail
  refine (kept_calls l g A c w3 HM3.out (C_fr HR.out HF3.out) hl).mono ?_
  rintro e w4 ⟨rfl, rfl⟩
  clear HD3 HE3
  go_wp2_with fail
  refine (flipped_calls l g w3 HM3.out hl).mono ?_
  rintro e w4 ⟨v, rfl, hv, hm, hf⟩
  obtain ⟨A1, c1, rfl, hc1, hr1⟩ := Kd.R_reads hv
  have HF4 : Aside0 (Fr No w w4) := ⟨HF3.out.trans hf (fun k hk => .inr (by subst hk; exact HG.out))⟩
  have HM4 := Aside0.mk hm; have HR4 := Aside0.mk hr1
  clear hv hm hf hr1 HM3 HF3
  have hll : (l.map flip1).length = l.length := by simp
  have hl2 : (l.map flip1).length ≤ 140737488351232 := by simpa using hl
  rw [bi_length] at *
  rw [← hll]
  clear hll
  generalize l.map flip1 = m at *
  go_wp2_with fail
  refine (digest_calls m _ (m.length + 6) w4 (by omega) (HM4.out.le hl2) hl2 (HT.out.1.fr HF4.out id) (HT.out.2.1.fr HF4.out id)).mono ?_
  rintro e w5 ⟨v, rfl, hm, hf⟩
  obtain ⟨D2, cd2, rfl, hcd, hrd⟩ := hm.reads
  have HD5 := Aside0.mk hrd
  have HF5 : Aside0 (Fr No w w5) := ⟨HF4.out.then_ hf⟩
  have HM5 : Aside0 (Room w5 g m) := ⟨HM4.out.fr hf id⟩
  have HR5 : Aside0 (Rb w5 A1 m) := ⟨C_fr HR4.out hf⟩
  clear hm hf hrd HM4 HF4 HR4
  go_wp2_with fail
  refine (refSum_calls m A1 c1 w5 HR5.out hl2 (HT.out.2.2.fr HF5.out id)).mono ?_
  rintro e w6 ⟨v, rfl, hm, hf⟩
  obtain ⟨E2, ce2, rfl, hce, hre⟩ := hm.reads
  have HE6 := Aside0.mk hre
  have HD6 : Aside0 (Rb w6 D2 (sha m)) := ⟨C_fr HD5.out hf⟩
  have HF6 : Aside0 (Fr No w w6) := ⟨HF5.out.then_ hf⟩
  have HM6 : Aside0 (Room w6 g m) := ⟨HM5.out.fr hf id⟩
  have HR6 : Aside0 (Rb w6 A1 m) := ⟨C_fr HR5.out hf⟩
  clear hm hf hre HM5 HF5 HD5 HR5 hcd hce
  generalize sha m = d2 at *
  go_wp2_with fail
  refine (same_calls d2 d2 D2 E2 cd2 ce2 w6 HD6.out HE6.out).mono ?_
  rintro e w7 ⟨rfl, rfl⟩
  go_wp2_with fail
  refine (kept_calls m g A1 c1 w6 HM6.out HR6.out hl2).mono ?_
  rintro e w7 ⟨rfl, rfl⟩
  go_wp2_with fail
  refine (head_calls w6 (HT.out.1.fr HF6.out id) (HT.out.2.1.fr HF6.out id)).mono ?_
  rintro e w7 ⟨rfl, hf⟩
  have HF7 : Aside0 (Fr No w w7) := ⟨HF6.out.then_ hf⟩
  clear hf
  go_wp2
  go_ret
  exact ⟨rfl, HF7.out⟩
end Go.Proofs.YtbaeddppihjgfaaDoor.Sg
