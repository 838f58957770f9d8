/- The walk of the law DigestDomains. -/
import Derived.Test.YtbaeddppihjgfaaDoorDomainB
import Derived.Test.YtbaeddppihjgfaaDoorRoomsC
namespace Go.Proofs.YtbaeddppihjgfaaDoor.Sg
open Go Go.RowKit Go.Proofs.YtbaeddppihjgfaaDoorW.PrintWords
set_option linter.unusedVariables false
theorem numF_calls (n : Int) (w : World) : Calls Tryd.prog 34 #[.int .i64 n] w fun e w' => e = .returned (.int .i64 n) ∧ w = w' := by
  go_enter Tryd.func34, Tryd.ntmps34
  go_wp2
  go_ret
  exact ⟨rfl, rfl⟩
/-- [][]byte{l}, of a list just made. -/
theorem one_rows {w W : World} (l : List UInt8) (g : Nat) (c : Nat) (hc : l.length ≤ c) (hr : Rb w (some ⟨g, 0, none⟩) l) (hW : W = w.alloc (.cells #[.slice (some ⟨g, 0, none⟩) l.length c] 22)) : Rbs W (some ⟨w.heap.size, 0, none⟩) [l] := by
  subst hW
  refine Rbs.mk_ (by simp) (fun i hi => ?_)
  obtain rfl : i = 0 := by simpa using hi
  refine ⟨some ⟨g, 0, none⟩, c, ?_, hc, C_fr hr ((Fr.refl No w).alloc _)⟩
  have hb := heap_alloc_new w (.cells #[.slice (some ⟨g, 0, none⟩) l.length c] 22)
  have := cell_of_row _ w.heap.size 0 _ _ _ hb
  exact this
theorem flipped_small {ls : List (List UInt8)} (h : ∀ l ∈ ls, l.length ≤ 140737488351232) : ∀ l ∈ ls.reverse.map (·.map flip1), l.length ≤ 140737488351232 := fun l hl => by
  obtain ⟨x, hx, rfl⟩ := List.mem_map.1 hl
  simpa using h x (List.mem_reverse.1 hx)
theorem dx_block : (compC S8.init (blockW ((frameL [[100], [120]]) ++ padOf 14))).list = [0x9f4654b5, 0x776e1545, 0xedafcbd4, 0x6b9b09df, 0x79c73cb8, 0x8ce5ba46, 0x4b9613bb, 0x260bf53] := by decide +kernel
theorem dx_len : (frameL [[100], [120]]).length = 14 := by decide
theorem dx_sha : sha (frameL [[100], [120]]) = outS ⟨0x9f4654b5, 0x776e1545, 0xedafcbd4, 0x6b9b09df, 0x79c73cb8, 0x8ce5ba46, 0x4b9613bb, 0x260bf53⟩ := by
  unfold sha
  rw [dx_len, absorb_long _ _ (by decide), comp_eq, S8.of_list (v := ⟨0x9f4654b5, 0x776e1545, 0xedafcbd4, 0x6b9b09df, 0x79c73cb8, 0x8ce5ba46, 0x4b9613bb, 0x260bf53⟩) dx_block, absorb_short _ _ (by decide)]
def dxHex : List UInt8 := [57, 102, 52, 54, 53, 52, 98, 53, 55, 55, 54, 101, 49, 53, 52, 53, 101, 100, 97, 102, 99, 98, 100, 52, 54, 98, 57, 98, 48, 57, 100, 102, 55, 57, 99, 55, 51, 99, 98, 56, 56, 99, 101, 53, 98, 97, 52, 54, 52, 98, 57, 54, 49, 51, 98, 98, 48, 50, 54, 48, 98, 102, 53, 51]
theorem dx_ok : frameOk [[100], [120]] = true := by decide
theorem dx_dom : domB [100] [[120]] = sha (frameL [[100], [120]]) := if_pos dx_ok
theorem dx_hex : hexL (domB [100] [[120]]) = dxHex := by rw [dx_dom, dx_sha]; decide +kernel
theorem dx_n : (domB [100] [[120]]).length = 32 := by rw [dx_dom]; exact sha_length _
theorem dx_e : frameE [[100], [120]] = 0 := (frame_yes dx_ok).2
set_option maxRecDepth 100000 in
set_option maxHeartbeats 4000000 in
theorem domains_walk (w : World) (S : List UInt8) (hS : S.length ≤ 140737488351232) (ls : List (List UInt8)) (A : Option Addr) (c : Nat) (hr : Rbs w A ls) (hc : ls.length ≤ c) (hn : ls.length ≤ 5864062014634) (hl : ∀ l ∈ ls, l.length ≤ 140737488351232) (hK : KAt w) (hF : FirstAt w) (hQ : KeysAt w) :
    Calls Tryd.prog 10 #[.string ⟨S.toArray⟩, .slice A ls.length c] w fun e w' => e = .returned (.bool true) ∧ Fr No w w' := by
  have HR := Aside0.mk hr; have HL := Aside0.mk hl; have HT := Aside0.mk (And.intro hK (And.intro hF hQ))
  clear hr hl hK hF hQ
  have hee : (frameE (S :: ls) == frameE (S :: ls)) = true := beq_self_eq_true _
  go_enter Tryd.func10, Tryd.ntmps10
  go_wp2_with fail
  refine (roomyAll_calls ls A c w HR.out hn HL.out).mono ?_
  rintro e w1 ⟨B, g, x1, x2, rfl, hm, hs, hf⟩
  have HM1 := Aside0.mk hm; have HS := Aside0.mk hs; have HF1 := Aside0.mk hf
  clear hm hs hf
  go_wp2_with fail
  have h7 : Rb (w1.alloc (.cells #[.int .u8 120] 5)) (some ⟨w1.heap.size, 0, none⟩) [120] := lit_reads w1 [120] (by simp)
  have hfa : Fr No w1 (w1.alloc (.cells #[.int .u8 120] 5)) := (Fr.refl No w1).alloc _
  have hza : (w1.alloc (.cells #[.int .u8 120] 5)).heap.size = w1.heap.size + 1 := by simp
  have hfb : Fr No w1 ((w1.alloc (.cells #[.int .u8 120] 5)).alloc (.cells #[.slice (some ⟨w1.heap.size, 0, none⟩) 1 1] 22)) := hfa.alloc _
  have hrw := one_rows (w := w1.alloc (.cells #[.int .u8 120] 5)) [120] w1.heap.size 1 (by simp) h7 rfl
  rw [hza] at hrw
  simp only [List.length_cons, List.length_nil, Nat.zero_add] at hrw
  generalize (w1.alloc (.cells #[.int .u8 120] 5)).alloc _ = W at hfb hrw ⊢
  have HF2 : Aside0 (Fr No w W) := ⟨HF1.out.then_ hfb⟩
  have HM2 : Aside0 (RoomAll W B g x1 x2 ls) := ⟨HM1.out.fr (S := No) hfb⟩
  clear h7 hfa hza hfb HM1 HF1
  refine (domain_calls [100] [[120]] _ 1 W hrw (by simp) (by simp) (by simp) (HT.out.1.fr HF2.out id) (HT.out.2.1.fr HF2.out id)).mono ?_
  rintro e w3 ⟨v, rfl, hm, hf⟩
  obtain ⟨X, cx, rfl, hcx, hrx⟩ := hm.reads
  have HX3 := Aside0.mk hrx
  have HF3 : Aside0 (Fr No w w3) := ⟨HF2.out.then_ hf⟩
  have HM3 : Aside0 (RoomAll w3 B g x1 x2 ls) := ⟨HM2.out.fr (S := No) hf⟩
  have HDX := Aside0.mk dx_hex
  have HDN := Aside0.mk dx_n
  clear hm hf hrx hrw HF2 HM2
  rw [dx_e] at *
  generalize domB [100] [[120]] = dx at *
  go_wp2_with fail
  refine (domain_calls S ls _ (ls.length + 2) w3 HM3.out.reads hn HL.out hS (HT.out.1.fr HF3.out id) (HT.out.2.1.fr HF3.out id)).mono ?_
  rintro e w4 ⟨v, rfl, hm, hf⟩
  obtain ⟨Y, cy, rfl, hcy, hry⟩ := hm.reads
  have HY4 := Aside0.mk hry
  have HX4 := Aside0.mk (C_fr HX3.out hf)
  have HF4 : Aside0 (Fr No w w4) := ⟨HF3.out.then_ hf⟩
  have HM4 : Aside0 (RoomAll w4 B g x1 x2 ls) := ⟨HM3.out.fr (S := No) hf⟩
  clear hm hf hry HF3 HM3 HX3
  go_wp2_with fail
  refine (refDomain_calls S ls A c w4 (HR.out.fr HF4.out) hn HL.out hS (HT.out.2.2.fr HF4.out id)).mono ?_
  rintro e w5 ⟨v, rfl, hm, hf⟩
  obtain ⟨Z, cz, rfl, hcz, hrz⟩ := hm.reads
  have HZ5 := Aside0.mk hrz
  have HX5 := Aside0.mk (C_fr HX4.out hf)
  have HY5 := Aside0.mk (C_fr HY4.out hf)
  have HF5 : Aside0 (Fr No w w5) := ⟨HF4.out.then_ hf⟩
  have HM5 : Aside0 (RoomAll w5 B g x1 x2 ls) := ⟨HM4.out.fr (S := No) hf⟩
  clear hm hf hrz HF4 HM4 HX4 HY4
  generalize domB S ls = b at *
  generalize frameE (S :: ls) = e0 at *
  go_wp2_with fail
  refine (same_calls b b _ _ _ _ _ HY5.out HZ5.out).mono ?_
  rintro e w6 ⟨rfl, rfl⟩
  go_wp2_with fail
  refine (numF_calls _ _).mono ?_
  rintro e w6 ⟨rfl, rfl⟩
  go_wp2_with fail
  refine (keptAll_calls ls B g x1 x2 A c w5 HM5.out (HR.out.fr HF5.out)).mono ?_
  rintro e w6 ⟨rfl, hf⟩
  have HX6 := Aside0.mk (C_fr HX5.out hf)
  have HF6 : Aside0 (Fr No w w6) := ⟨HF5.out.then_ hf⟩
  have HM6 : Aside0 (RoomAll w6 B g x1 x2 ls) := ⟨HM5.out.fr (S := No) hf⟩
  clear hf HF5 HM5 HX5 HY5 HZ5
  go_wp2_with fail
  refine (numF_calls _ _).mono ?_
  rintro e w7 ⟨rfl, rfl⟩
  go_wp2_with fail
  refine (refHex_calls dx X cx w6 HX6.out (by rw [HDN.out]; decide)).mono ?_
  rintro e w7 ⟨rfl, hf⟩
  have HF7 : Aside0 (Fr No w w7) := ⟨HF6.out.then_ hf⟩
  have HM7 : Aside0 (RoomAll w7 B g x1 x2 ls) := ⟨HM6.out.fr (S := No) hf⟩
  clear hf HF6 HM6 HX6
  rw [HDX.out]
  unfold dxHex
  go_wp2_with fail
  refine (flippedAll_calls ls B g x1 x2 w7 HM7.out).mono ?_
  rintro e w8 ⟨A1, c1, rfl, hc1, hr1, hm1, hf⟩
  have HF8 : Aside0 (Fr No w w8) := ⟨HF7.out.trans hf (fun b hb => .inr (by
    rcases hb with rfl | ⟨i, hi, rfl⟩
    · exact HS.out.b
    · exact HS.out.g i hi))⟩
  have hll : (ls.reverse.map (·.map flip1)).length = ls.length := by simp
  have HLM := Aside0.mk (flipped_small HL.out)
  have HR8 := Aside0.mk hr1; have HM8 := Aside0.mk hm1
  clear hr1 hm1 hf HF7 HM7
  rw [← hll]
  clear hll
  generalize (fun j => g (ls.length - 1 - j)) = g2 at *
  generalize ls.reverse.map (·.map flip1) = ms at *
  go_wp2_with fail
  refine (domain_calls S ms _ (ms.length + 2) w8 HM8.out.reads (by have := HM8.out.cnt; omega) HLM.out hS (HT.out.1.fr HF8.out id) (HT.out.2.1.fr HF8.out id)).mono ?_
  rintro e w9 ⟨v, rfl, hm, hf⟩
  obtain ⟨Y, cy2, rfl, hcy2, hry⟩ := hm.reads
  have HY9 := Aside0.mk hry
  have HF9 : Aside0 (Fr No w w9) := ⟨HF8.out.then_ hf⟩
  have HM9 : Aside0 (RoomAll w9 B g2 x1 x2 ms) := ⟨HM8.out.fr (S := No) hf⟩
  have HR9 : Aside0 (Rbs w9 A1 ms) := ⟨HR8.out.fr hf⟩
  clear hm hf hry HF8 HM8 HR8
  go_wp2_with fail
  refine (refDomain_calls S ms A1 c1 w9 HR9.out (by have := HM9.out.cnt; omega) HLM.out hS (HT.out.2.2.fr HF9.out id)).mono ?_
  rintro e w10 ⟨v, rfl, hm, hf⟩
  obtain ⟨Z, cz2, rfl, hcz2, hrz⟩ := hm.reads
  have HZ10 := Aside0.mk hrz
  have HY10 := Aside0.mk (C_fr HY9.out hf)
  have HF10 : Aside0 (Fr No w w10) := ⟨HF9.out.then_ hf⟩
  have HM10 : Aside0 (RoomAll w10 B g2 x1 x2 ms) := ⟨HM9.out.fr (S := No) hf⟩
  have HR10 : Aside0 (Rbs w10 A1 ms) := ⟨HR9.out.fr hf⟩
  clear hm hf hrz HF9 HM9 HY9 HR9
  generalize domB S ms = b2 at *
  generalize frameE (S :: ms) = e2 at *
  go_wp2_with fail
  refine (same_calls b2 b2 _ _ _ _ _ HY10.out HZ10.out).mono ?_
  rintro e w11 ⟨rfl, rfl⟩
  go_wp2_with fail
  refine (numF_calls _ _).mono ?_
  rintro e w11 ⟨rfl, rfl⟩
  go_wp2_with fail
  refine (sameAll_calls ms ms _ _ _ _ w10 HM10.out.reads HR10.out).mono ?_
  rintro e w11 ⟨rfl, hf⟩
  have HF11 : Aside0 (Fr No w w11) := ⟨HF10.out.then_ hf⟩
  clear hf
  go_wp2_with fail
  go_ret
  exact ⟨by simp, HF11.out⟩
end Go.Proofs.YtbaeddppihjgfaaDoor.Sg
