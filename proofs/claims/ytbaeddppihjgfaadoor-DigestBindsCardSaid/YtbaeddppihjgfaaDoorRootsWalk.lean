/- The walk of the law DigestRoots. -/
import Derived.Test.YtbaeddppihjgfaaDoorTreeProveB
import Derived.Test.YtbaeddppihjgfaaDoorRoomsC
import Derived.Test.YtbaeddppihjgfaaDoorHead
namespace Go.Proofs.YtbaeddppihjgfaaDoor.Sg
open Go Go.RowKit Go.Proofs.YtbaeddppihjgfaaDoorW.PrintWords
set_option linter.unusedVariables false
theorem numR_calls (n : Int) (w : World) : Calls Tryd.prog 34 #[.int .i64 n] w fun e w' => e = .returned (.int .i64 n) ∧ w = w' := by
  go_enter Tryd.func34, Tryd.ntmps34
  go_wp2
  go_ret
  exact ⟨rfl, rfl⟩
theorem flip_small {ls : LL} (h : ∀ l ∈ ls, l.length ≤ 140737488351232) : ∀ l ∈ ls.reverse.map (·.map flip1), l.length ≤ 140737488351232 := fun l hl => by
  obtain ⟨x, hx, rfl⟩ := List.mem_map.1 hl
  simpa using h x (List.mem_reverse.1 hx)
/-- [][]byte{nil}. -/
theorem nil_rows (w : World) : Rbs (w.alloc (.cells #[.slice none 0 0] 22)) (some ⟨w.heap.size, 0, none⟩) [[]] := by
  refine Rbs.mk_ (by simp) (fun i hi => ?_)
  obtain rfl : i = 0 := by simpa using hi
  exact ⟨none, 0, new_cell w _ _, Nat.le_refl _, Rb_none _⟩
theorem ro_block : (compC S8.init (blockW ([0] ++ padOf 1))).list = [0x6e340b9c, 0xffb37a98, 0x9ca544e6, 0xbb780a2c, 0x78901d3f, 0xb3373876, 0x8511a306, 0x17afa01d] := by decide +kernel
theorem ro_sha : sha [0] = outS ⟨0x6e340b9c, 0xffb37a98, 0x9ca544e6, 0xbb780a2c, 0x78901d3f, 0xb3373876, 0x8511a306, 0x17afa01d⟩ := by
  unfold sha
  rw [show ([0] : List UInt8).length = 1 from rfl, absorb_long _ _ (by decide), comp_eq, S8.of_list (v := ⟨0x6e340b9c, 0xffb37a98, 0x9ca544e6, 0xbb780a2c, 0x78901d3f, 0xb3373876, 0x8511a306, 0x17afa01d⟩) ro_block, absorb_short _ _ (by decide)]
def roHex : List UInt8 := [54, 101, 51, 52, 48, 98, 57, 99, 102, 102, 98, 51, 55, 97, 57, 56, 57, 99, 97, 53, 52, 52, 101, 54, 98, 98, 55, 56, 48, 97, 50, 99, 55, 56, 57, 48, 49, 100, 51, 102, 98, 51, 51, 55, 51, 56, 55, 54, 56, 53, 49, 49, 97, 51, 48, 54, 49, 55, 97, 102, 97, 48, 49, 100]
theorem ro_root : rootB [[]] = sha [0] := by unfold rootB; rw [if_pos (by decide), tree_one]
theorem ro_hex : hexL (rootB [[]]) = roHex := by rw [ro_root, ro_sha]; decide +kernel
theorem ro_n : (rootB [[]]).length = 32 := by rw [ro_root]; exact sha_length _
theorem ro_e : rootE [[]] = 0 := if_pos (by decide)
/-- A row of one byte, or none, in place of another: two rows read alike. -/
structure Pairs (w : World) (X Y : Option Addr) (b : List UInt8) : Prop where
  x : Rb w X b
  y : Rb w Y b
set_option maxRecDepth 100000 in
set_option maxHeartbeats 4000000 in
theorem roots_walk (w : World) (ls : LL) (a : Int) (A : Option Addr) (c : Nat) (hr : Rbs w A ls) (hc : ls.length ≤ c) (hn : ls.length ≤ 5864062014634) (hl : ∀ l ∈ ls, l.length ≤ 140737488351232) (hK : KAt w) (hF : FirstAt w) (hQ : KeysAt w) :
    Calls Tryd.prog 12 #[.slice A ls.length c, .int .i64 a] w fun e w' => e = .returned (.bool true) ∧ Fr No w w' := by
  have HR := Aside0.mk hr; have HL := Aside0.mk hl; have HT := Aside0.mk (And.intro hK (And.intro hF hQ)); have HC := Aside0.mk hc
  clear hr hl hK hF hQ
  have hee : (rootE ls == rootE ls) = true := beq_self_eq_true _
  have hpp : (proveE ls a == proveE ls a) = true := beq_self_eq_true _
  go_enter Tryd.func12, Tryd.ntmps12
  go_wp2_with fail
  refine (roomyAll_calls ls A c w HR.out hn HL.out).mono ?_
  rintro e w1 ⟨B, g, x1, x2, rfl, hm, hs, hf⟩
  have HM1 := Aside0.mk hm; have HS := Aside0.mk hs; have HF1 := Aside0.mk hf
  clear hm hs hf
  go_wp2_with fail
  have hrw := nil_rows w1
  have hfa : Fr No w1 (w1.alloc (.cells #[.slice none 0 0] 22)) := (Fr.refl No w1).alloc _
  generalize w1.alloc (.cells #[.slice none 0 0] 22) = W at hrw hfa ⊢
  have HRW := Aside0.mk hrw
  have HF2 : Aside0 (Fr No w W) := ⟨HF1.out.then_ hfa⟩
  have HM2 : Aside0 (RoomAll W B g x1 x2 ls) := ⟨HM1.out.fr (S := No) hfa⟩
  clear hrw hfa HM1 HF1
  refine (root_walk [[]] _ 1 W HRW.out (by decide) (by decide) (by simp) (HT.out.1.fr HF2.out id) (HT.out.2.1.fr HF2.out id)).mono ?_
  rintro e w3 ⟨v, rfl, hm, hf⟩
  obtain ⟨O, co, rfl, hco, hro⟩ := hm.reads
  have HO3 := Aside0.mk hro
  have HF3 : Aside0 (Fr No w w3) := ⟨HF2.out.then_ hf⟩
  have HM3 : Aside0 (RoomAll w3 B g x1 x2 ls) := ⟨HM2.out.fr (S := No) hf⟩
  have HDX := Aside0.mk ro_hex
  have HDN := Aside0.mk ro_n
  clear hm hf hro HRW HF2 HM2
  rw [ro_e] at *
  generalize rootB [[]] = ob at *
  go_wp2_with fail
  refine (root_walk ls _ (ls.length + 2) w3 HM3.out.reads (by omega) hn HL.out (HT.out.1.fr HF3.out id) (HT.out.2.1.fr HF3.out id)).mono ?_
  rintro e w4 ⟨v, rfl, hm, hf⟩
  obtain ⟨X, cx, rfl, hcx, hrx⟩ := hm.reads
  have HX4 := Aside0.mk hrx
  have HO4 := Aside0.mk (C_fr HO3.out hf)
  have HF4 : Aside0 (Fr No w w4) := ⟨HF3.out.then_ hf⟩
  have HM4 : Aside0 (RoomAll w4 B g x1 x2 ls) := ⟨HM3.out.fr (S := No) hf⟩
  clear hm hf hrx HF3 HM3 HO3
  go_wp2_with fail
  refine (refRoot_calls ls A c w4 (HR.out.fr HF4.out) HC.out HL.out hn (HT.out.2.2.fr HF4.out id)).mono ?_
  rintro e w5 ⟨v, rfl, hm, hf⟩
  obtain ⟨Y, cy, rfl, hcy, hry⟩ := hm.reads
  have HXY5 : Aside0 (Pairs w5 X Y (rootB ls)) := ⟨⟨C_fr HX4.out hf, hry⟩⟩
  have HO5 := Aside0.mk (C_fr HO4.out hf)
  have HF5 : Aside0 (Fr No w w5) := ⟨HF4.out.then_ hf⟩
  have HM5 : Aside0 (RoomAll w5 B g x1 x2 ls) := ⟨HM4.out.fr (S := No) hf⟩
  clear hm hf hry HF4 HM4 HX4 HO4
  go_wp2_with fail
  refine (prove_walk ls a _ (ls.length + 2) w5 HM5.out.reads (by omega) hn HL.out (HT.out.1.fr HF5.out id) (HT.out.2.1.fr HF5.out id)).mono ?_
  rintro e w6 ⟨v, rfl, hm, hf⟩
  obtain ⟨U, cu, rfl, hcu, hru⟩ := hm.reads
  have HU6 := Aside0.mk hru
  have HXY6 : Aside0 (Pairs w6 X Y (rootB ls)) := ⟨⟨C_fr HXY5.out.x hf, C_fr HXY5.out.y hf⟩⟩
  have HO6 := Aside0.mk (C_fr HO5.out hf)
  have HF6 : Aside0 (Fr No w w6) := ⟨HF5.out.then_ hf⟩
  have HM6 : Aside0 (RoomAll w6 B g x1 x2 ls) := ⟨HM5.out.fr (S := No) hf⟩
  clear hm hf hru HF5 HM5 HXY5 HO5
  go_wp2_with fail
  refine (refProve_calls ls a A c w6 (HR.out.fr HF6.out) HC.out hn HL.out (HT.out.2.2.fr HF6.out id)).mono ?_
  rintro e w7 ⟨v, rfl, hm, hf⟩
  obtain ⟨V, cv, rfl, hcv, hrv⟩ := hm.reads
  have HV7 := Aside0.mk hrv
  have HU7 : Aside0 (Rbs w7 U (proveB ls a)) := ⟨HU6.out.fr hf⟩
  have HXY7 : Aside0 (Pairs w7 X Y (rootB ls)) := ⟨⟨C_fr HXY6.out.x hf, C_fr HXY6.out.y hf⟩⟩
  have HO7 := Aside0.mk (C_fr HO6.out hf)
  have HF7 : Aside0 (Fr No w w7) := ⟨HF6.out.then_ hf⟩
  have HM7 : Aside0 (RoomAll w7 B g x1 x2 ls) := ⟨HM6.out.fr (S := No) hf⟩
  clear hm hf hrv HF6 HM6 HXY6 HO6 HU6
  generalize rootB ls = rb at *
  generalize rootE ls = re at *
  generalize proveB ls a = pb at *
  generalize proveE ls a = pe at *
  go_wp2_with fail
  refine (numR_calls _ _).mono ?_
  rintro e w8 ⟨rfl, rfl⟩
  go_wp2_with fail
  refine (refHex_calls ob O co w7 HO7.out (by rw [HDN.out]; decide)).mono ?_
  rintro e w8 ⟨rfl, hf⟩
  have HV8 : Aside0 (Rbs w8 V pb) := ⟨HV7.out.fr hf⟩
  have HU8 : Aside0 (Rbs w8 U pb) := ⟨HU7.out.fr hf⟩
  have HXY8 : Aside0 (Pairs w8 X Y rb) := ⟨⟨C_fr HXY7.out.x hf, C_fr HXY7.out.y hf⟩⟩
  have HF8 : Aside0 (Fr No w w8) := ⟨HF7.out.then_ hf⟩
  have HM8 : Aside0 (RoomAll w8 B g x1 x2 ls) := ⟨HM7.out.fr (S := No) hf⟩
  clear hf HF7 HM7 HXY7 HO7 HU7 HV7
  rw [HDX.out]
  unfold roHex
  go_wp2_with fail
  refine (same_calls rb rb _ _ _ _ _ HXY8.out.x HXY8.out.y).mono ?_
  rintro e w9 ⟨rfl, rfl⟩
  go_wp2_with fail
  refine (numR_calls _ _).mono ?_
  rintro e w9 ⟨rfl, rfl⟩
  go_wp2_with fail
  refine (sameAll_calls pb pb _ _ _ _ w8 HU8.out HV8.out).mono ?_
  rintro e w9 ⟨rfl, hf⟩
  have HF9 : Aside0 (Fr No w w9) := ⟨HF8.out.then_ hf⟩
  have HM9 : Aside0 (RoomAll w9 B g x1 x2 ls) := ⟨HM8.out.fr (S := No) hf⟩
  clear hf HF8 HM8 HXY8 HU8 HV8
  go_wp2_with fail
  refine (numR_calls _ _).mono ?_
  rintro e w10 ⟨rfl, rfl⟩
  go_wp2_with fail
  refine (keptAll_calls ls B g x1 x2 A c w9 HM9.out (HR.out.fr HF9.out)).mono ?_
  rintro e w10 ⟨rfl, hf⟩
  have HF10 : Aside0 (Fr No w w10) := ⟨HF9.out.then_ hf⟩
  have HM10 : Aside0 (RoomAll w10 B g x1 x2 ls) := ⟨HM9.out.fr (S := No) hf⟩
  clear hf HF9 HM9
  by_cases h1000 : ls.length ≤ 1000
  · go_wp2_with fail
    refine (flippedAll_calls ls B g x1 x2 w10 HM10.out).mono ?_
    rintro e w11 ⟨A1, c1, rfl, hc1, hr1, hm1, hf⟩
    have HF11 : Aside0 (Fr No w w11) := ⟨HF10.out.trans hf (fun b hb => .inr (by
      rcases hb with rfl | ⟨i, hi, rfl⟩
      · exact HS.out.b
      · exact HS.out.g i hi))⟩
    have hll : (ls.reverse.map (·.map flip1)).length = ls.length := by simp
    have HLM := Aside0.mk (flip_small HL.out)
    have HR11 := Aside0.mk hr1; have HM11 := Aside0.mk hm1
    clear hr1 hm1 hf HF10 HM10
    rw [← hll] at hc1
    rw [← hll]
    clear hll
    generalize (fun j => g (ls.length - 1 - j)) = g2 at *
    generalize ls.reverse.map (·.map flip1) = ms at *
    have HC1 := Aside0.mk hc1
    have HMN : Aside0 (ms.length ≤ 5864062014634) := ⟨HM11.out.cnt⟩
    have hee2 : (rootE ms == rootE ms) = true := beq_self_eq_true _
    have hpp2 : (proveE ms a == proveE ms a) = true := beq_self_eq_true _
    clear hc1 hee hpp
    go_wp2_with fail
    refine (root_walk ms _ (ms.length + 2) w11 HM11.out.reads (by omega) HMN.out HLM.out (HT.out.1.fr HF11.out id) (HT.out.2.1.fr HF11.out id)).mono ?_
    rintro e w12 ⟨v, rfl, hm, hf⟩
    obtain ⟨X2, cx2, rfl, hcx2, hrx⟩ := hm.reads
    have HX12 := Aside0.mk hrx
    have HF12 : Aside0 (Fr No w w12) := ⟨HF11.out.then_ hf⟩
    have HM12 : Aside0 (RoomAll w12 B g2 x1 x2 ms) := ⟨HM11.out.fr (S := No) hf⟩
    have HR12 : Aside0 (Rbs w12 A1 ms) := ⟨HR11.out.fr hf⟩
    clear hm hf hrx HF11 HM11 HR11
    go_wp2_with fail
    refine (refRoot_calls ms A1 c1 w12 HR12.out HC1.out HLM.out HMN.out (HT.out.2.2.fr HF12.out id)).mono ?_
    rintro e w13 ⟨v, rfl, hm, hf⟩
    obtain ⟨Y2, cy2, rfl, hcy2, hry⟩ := hm.reads
    have HXY13 : Aside0 (Pairs w13 X2 Y2 (rootB ms)) := ⟨⟨C_fr HX12.out hf, hry⟩⟩
    have HF13 : Aside0 (Fr No w w13) := ⟨HF12.out.then_ hf⟩
    have HM13 : Aside0 (RoomAll w13 B g2 x1 x2 ms) := ⟨HM12.out.fr (S := No) hf⟩
    have HR13 : Aside0 (Rbs w13 A1 ms) := ⟨HR12.out.fr hf⟩
    clear hm hf hry HF12 HM12 HX12 HR12
    go_wp2_with fail
    refine (prove_walk ms a _ (ms.length + 2) w13 HM13.out.reads (by omega) HMN.out HLM.out (HT.out.1.fr HF13.out id) (HT.out.2.1.fr HF13.out id)).mono ?_
    rintro e w14 ⟨v, rfl, hm, hf⟩
    obtain ⟨U2, cu2, rfl, hcu2, hru⟩ := hm.reads
    have HU14 := Aside0.mk hru
    have HXY14 : Aside0 (Pairs w14 X2 Y2 (rootB ms)) := ⟨⟨C_fr HXY13.out.x hf, C_fr HXY13.out.y hf⟩⟩
    have HF14 : Aside0 (Fr No w w14) := ⟨HF13.out.then_ hf⟩
    have HM14 : Aside0 (RoomAll w14 B g2 x1 x2 ms) := ⟨HM13.out.fr (S := No) hf⟩
    have HR14 : Aside0 (Rbs w14 A1 ms) := ⟨HR13.out.fr hf⟩
    clear hm hf hru HF13 HM13 HXY13 HR13
    go_wp2_with fail
    refine (refProve_calls ms a A1 c1 w14 HR14.out HC1.out HMN.out HLM.out (HT.out.2.2.fr HF14.out id)).mono ?_
    rintro e w15 ⟨v, rfl, hm, hf⟩
    obtain ⟨V2, cv2, rfl, hcv2, hrv⟩ := hm.reads
    have HV15 := Aside0.mk hrv
    have HU15 : Aside0 (Rbs w15 U2 (proveB ms a)) := ⟨HU14.out.fr hf⟩
    have HXY15 : Aside0 (Pairs w15 X2 Y2 (rootB ms)) := ⟨⟨C_fr HXY14.out.x hf, C_fr HXY14.out.y hf⟩⟩
    have HF15 : Aside0 (Fr No w w15) := ⟨HF14.out.then_ hf⟩
    have HM15 : Aside0 (RoomAll w15 B g2 x1 x2 ms) := ⟨HM14.out.fr (S := No) hf⟩
    have HR15 : Aside0 (Rbs w15 A1 ms) := ⟨HR14.out.fr hf⟩
    clear hm hf hrv HF14 HM14 HXY14 HU14 HR14
    generalize rootB ms = rb2 at *
    generalize rootE ms = re2 at *
    generalize proveB ms a = pb2 at *
    generalize proveE ms a = pe2 at *
    go_wp2_with fail
    refine (same_calls rb2 rb2 _ _ _ _ _ HXY15.out.x HXY15.out.y).mono ?_
    rintro e w16 ⟨rfl, rfl⟩
    go_wp2_with fail
    refine (numR_calls _ _).mono ?_
    rintro e w16 ⟨rfl, rfl⟩
    go_wp2_with fail
    refine (sameAll_calls pb2 pb2 _ _ _ _ w15 HU15.out HV15.out).mono ?_
    rintro e w16 ⟨rfl, hf⟩
    have HF16 : Aside0 (Fr No w w16) := ⟨HF15.out.then_ hf⟩
    have HM16 : Aside0 (RoomAll w16 B g2 x1 x2 ms) := ⟨HM15.out.fr (S := No) hf⟩
    have HR16 : Aside0 (Rbs w16 A1 ms) := ⟨HR15.out.fr hf⟩
    clear hf HF15 HM15 HR15 HXY15 HU15 HV15
    go_wp2_with fail
    refine (numR_calls _ _).mono ?_
    rintro e w17 ⟨rfl, rfl⟩
    go_wp2_with fail
    refine (sameAll_calls ms ms _ _ _ _ w16 HM16.out.reads HR16.out).mono ?_
    rintro e w17 ⟨rfl, hf⟩
    have HF17 : Aside0 (Fr No w w17) := ⟨HF16.out.then_ hf⟩
    clear hf
    go_wp2_with fail
    go_ret
    exact ⟨by simp, HF17.out⟩
  · go_wp2_with fail
    go_ret
    exact ⟨rfl, HF10.out⟩
theorem roots_all (w : World) (ls : LL) (A : Option Addr) (c : Nat) (hr : Rbs w A ls) (hc : ls.length ≤ c) (hn : ls.length ≤ 5864062014634) (hl : ∀ l ∈ ls, l.length ≤ 140737488351232) (a : Int) (ha : (Lit.int .i64 a).wf = true) (hK : KAt w) (hF : FirstAt w) (hQ : KeysAt w) :
    Calls Tryd.prog 12 #[.slice A ls.length c, .int .i64 a] w fun e w' => e = .returned (.bool true) ∧ Fr No w w' := roots_walk w ls a A c hr hc hn hl hK hF hQ
end Go.Proofs.YtbaeddppihjgfaaDoor.Sg
