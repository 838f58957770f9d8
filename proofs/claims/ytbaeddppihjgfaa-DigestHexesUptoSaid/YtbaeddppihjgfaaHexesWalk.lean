/- The walk of the law DigestHexes. -/
import Derived.Test.YtbaeddppihjgfaaTwoWayWalk
namespace Go.Proofs.Ytbaeddppihjgfaa.Sg
open Go Go.RowKit Go.Proofs.YtbaeddppihjgfaaW.PrintWords
set_option linter.unusedVariables false
/-- What either Unhex answers, as one value. -/
def unhexN (L : List UInt8) : Int := match unhexL L with
  | some _ => 0
  | none => 31
def unhexB (L : List UInt8) : List UInt8 := (unhexL L).getD []
theorem unhex_any (L : List UInt8) (w : World) (e : Ending) (w' : World) (h : UnhexPost L w e w') : ∃ v, e = .returned (.tuple #[v, .int .i64 (unhexN L)]) ∧ Mine w' w.heap.size v (bi (unhexB L)) ∧ Fr No w w' := by
  obtain ⟨hf, ⟨v, m, h1, h2, h3⟩ | ⟨h1, h2⟩⟩ := h
  · exact ⟨v, by rw [h2]; unfold unhexN; rw [h1], by unfold unhexB; rw [h1]; exact h3, hf⟩
  · exact ⟨_, by rw [h2]; unfold unhexN; rw [h1], by unfold unhexB; rw [h1]; exact Mine.nil _ _, hf⟩
theorem unhex_6 : unhexL [48, 48, 48, 102, 102, 102] = some [0, 15, 255] := by decide +kernel
theorem three_reads (W : World) : Kd.C (Kd.int .u8) (W.alloc (.cells #[.int .u8 0, .int .u8 15, .int .u8 255] 5)) (some ⟨W.heap.size, 0, none⟩) 3 (bi [0, 15, 255]) := lit_reads W [0, 15, 255] (by simp)
set_option maxRecDepth 100000 in
set_option maxHeartbeats 4000000 in
theorem hexes_walk (w : World) (b : List UInt8) (A : Option Addr) (c : Nat) (hr : Rb w A b) (hc : b.length ≤ c) (hl : b.length ≤ 1048576) (S : List UInt8) (hs : S.length ≤ 1048576) :
    Calls Try.prog 8 #[.slice A b.length c, .string ⟨S.toArray⟩] w fun e w' => e = .returned (.bool true) ∧ Fr No w w' := by
  have HR := Aside0.mk hr
  clear hr
  have hxx : (hexL b == hexL b) = true := beq_self_eq_true _
  have hnn : (unhexN S == unhexN S) = true := beq_self_eq_true _
  have hbb : decide (unhexB S = unhexB S) = true := decide_eq_true rfl
  have h33 : decide (([0, 15, 255] : List UInt8) = [0, 15, 255]) = true := by decide
  go_enter Try.func8, Try.ntmps8
  go_wp2_with fail
  refine (roomy_calls b A c _ HR.out (by omega)).mono ?_
  rintro e w1 ⟨g, rfl, hg, hm, hf⟩
  have HM := Aside0.mk hm; have HF1 := Aside0.mk hf
  clear hg hm hf
  go_wp2_with fail
  refine (hex_calls b _ _ _ (HM.out.le (by omega)) hl).mono ?_
  rintro e w2 ⟨rfl, hf⟩
  have HF2 : Aside0 (Fr No w w2) := ⟨HF1.out.then_ hf⟩
  have HM2 : Aside0 (Room w2 g b) := ⟨HM.out.blk.fr hf id⟩
  clear hf HF1 HM
  go_wp2_with fail
  refine (unhex_calls S _ (by omega)).mono ?_
  intro e w3 hp
  obtain ⟨v, rfl, hm, hf⟩ := unhex_any _ _ _ _ hp
  obtain ⟨X, cx, rfl, hcx, hrx⟩ := hm.reads
  have HF3 : Aside0 (Fr No w w3) := ⟨HF2.out.then_ hf⟩
  have HM3 : Aside0 (Room w3 g b) := ⟨HM2.out.blk.fr hf id⟩
  have HX := Aside0.mk hrx
  clear hp hm hf hrx HF2 HM2
  go_wp2_with fail
  refine (refUnhex_calls S _ (by omega)).mono ?_
  intro e w4 hp
  obtain ⟨v, rfl, hm, hf⟩ := unhex_any _ _ _ _ hp
  obtain ⟨Y, cy, rfl, hcy, hry⟩ := hm.reads
  have HF4 : Aside0 (Fr No w w4) := ⟨HF3.out.then_ hf⟩
  have HM4 : Aside0 (Room w4 g b) := ⟨HM3.out.blk.fr hf id⟩
  have HX4 := Aside0.mk (C_fr HX.out hf)
  have HY := Aside0.mk hry
  clear hp hm hf hry HF3 HM3 HX
  go_wp2_with fail
  refine (unhex_some [48, 48, 48, 102, 102, 102] _ _ (by simp) unhex_6).mono ?_
  rintro e w5 ⟨v, rfl, hm, hf⟩
  obtain ⟨Z, cz, rfl, hcz, hrz⟩ := hm.reads
  have HF5 : Aside0 (Fr No w w5) := ⟨HF4.out.then_ hf⟩
  have HM5 : Aside0 (Room w5 g b) := ⟨HM4.out.blk.fr hf id⟩
  have HX5 := Aside0.mk (C_fr HX4.out hf)
  have HY5 := Aside0.mk (C_fr HY.out hf)
  have HZ := Aside0.mk hrz
  have HR5 : Aside0 (Rb w5 A b) := ⟨C_fr HR.out HF5.out⟩
  clear hm hf hrz HF4 HM4 HX4 HY
  go_wp2_with fail
  refine (refHex_calls b _ _ _ HR5.out hl).mono ?_
  rintro e w6 ⟨rfl, hf⟩
  have HF6 : Aside0 (Fr No w w6) := ⟨HF5.out.then_ hf⟩
  have HM6 : Aside0 (Room w6 g b) := ⟨HM5.out.blk.fr hf id⟩
  have HX6 := Aside0.mk (C_fr HX5.out hf)
  have HY6 := Aside0.mk (C_fr HY5.out hf)
  have HZ6 := Aside0.mk (C_fr HZ.out hf)
  have HR6 : Aside0 (Rb w6 A b) := ⟨C_fr HR.out HF6.out⟩
  clear hf HF5 HM5 HX5 HY5 HZ HR5
  go_wp2_with fail
  refine (kept_calls b g A c _ HM6.out HR6.out (by omega)).mono ?_
  rintro e w7 ⟨rfl, rfl⟩
  go_wp2_with fail
  refine (same_calls (unhexB S) (unhexB S) _ _ _ _ _ HX6.out HY6.out).mono ?_
  rintro e w7 ⟨rfl, rfl⟩
  go_wp2_with fail
  refine (num_calls _ _).mono ?_
  rintro e w7 ⟨rfl, rfl⟩
  go_wp2_with fail
  refine (num_calls _ _).mono ?_
  rintro e w7 ⟨rfl, rfl⟩
  go_wp2_with fail
  have HZ7 : Aside0 (Rb (w6.alloc (.cells #[.int .u8 0, .int .u8 15, .int .u8 255] 5)) Z [0, 15, 255]) := ⟨C_fr HZ6.out ((Fr.refl No _).alloc _)⟩
  have H3 := Aside0.mk (three_reads w6)
  have HF7 : Aside0 (Fr No w (w6.alloc (.cells #[.int .u8 0, .int .u8 15, .int .u8 255] 5))) := ⟨HF6.out.alloc _⟩
  refine (same_calls [0, 15, 255] [0, 15, 255] _ _ _ _ _ HZ7.out H3.out).mono ?_
  rintro e w7 ⟨rfl, rfl⟩
  go_wp2
  go_ret
  exact ⟨rfl, HF7.out⟩
end Go.Proofs.Ytbaeddppihjgfaa.Sg
