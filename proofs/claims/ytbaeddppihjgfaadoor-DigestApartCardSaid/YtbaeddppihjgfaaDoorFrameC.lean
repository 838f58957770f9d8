/- The walk of the reference's Frame. -/
import Derived.Test.YtbaeddppihjgfaaDoorFrameB
namespace Go.Proofs.YtbaeddppihjgfaaDoor.Sg
open Go Go.RowKit Go.Proofs.YtbaeddppihjgfaaDoorW.PrintWords
set_option linter.unusedVariables false
theorem frameN_ge (ls : List (List UInt8)) : 4 ≤ frameN ls := by
  cases ls with
  | nil => simp [frameN]
  | cons _ _ => simp only [frameN]; omega
set_option maxRecDepth 100000 in
set_option maxHeartbeats 4000000 in
theorem refFrame_calls (ls : List (List UInt8)) (A : Option Addr) (c : Nat) (w : World) (hr : Rbs w A ls) (hl : ∀ l ∈ ls, l.length ≤ 140737488351232) :
    Calls Tryd.prog 60 #[.slice A ls.length c] w fun e w' => ∃ v, e = .returned (.tuple #[v, .int .i64 (frameE ls)]) ∧ Mine w' w.heap.size v (bi (frameB ls)) ∧ Fr No w w' := by
  have HR := Aside0.mk hr; have HL := Aside0.mk hl
  clear hr hl
  go_enter Tryd.func60, Tryd.ntmps60
  by_cases hn : ls.length ≤ 65536
  · go_wp2_with fail
    go_loop [4, 5] (fun a i => ∃ k : Nat, k ≤ ls.length ∧ i = .int .i64 k ∧ a = .int .i64 (frameN (ls.take k) : Nat) ∧ frameN (ls.take k) ≤ 67108864) (fun _ i => ls.length - (intOf i).toNat)
    case atStart => exact ⟨0, by omega, rfl, rfl, by simp [frameN]⟩
    case round =>
      obtain ⟨k, hk, rfl, rfl, hs⟩ := hrel
      by_cases hlt : k < ls.length
      · obtain ⟨ad, Ai, ci, rfl, hc, hci, hra⟩ := HR.out.at_ k hlt
        have hsm := HL.out _ (List.getElem_mem hlt)
        have HSU := frameN_succ ls k hlt
        clear hra hci
        have HBG := Aside0.mk (@frameOk_big ls (k + 1))
        rw [HSU] at HBG
        generalize ls[k] = l at *
        generalize frameN (ls.take k) = s at *
        by_cases hbig : s + (4 + l.length) ≤ 67108864
        · go_wp2_with fail
          refine ⟨⟨k + 1, by omega, by go_num, ?_, by omega⟩, by simp [intOf]; omega⟩
          rw [HSU]; congr 1; omega
        · have HNO := Aside0.mk (frame_not (HBG.out hbig))
          clear HBG HSU
          go_wp2_with fail
          go_ret2
          exact ⟨.slice none 0 0, by rw [HNO.out.2]; rfl, by rw [HNO.out.1]; exact Mine.nil _ _, Fr.refl _ _⟩
      · obtain rfl : k = ls.length := by omega
        rw [List.take_length] at hs ⊢
        have HY := Aside0.mk (frame_yes (frameOk_true hn hs))
        have HFN := Aside0.mk hs
        clear hs
        go_wp2_with fail
        refine (refFour_calls ls.length w w (Fr.refl _ _) (.slice none 0 0) [] (Mine.nil _ _) (by decide)).mono ?_
        rintro e w1 ⟨v1, rfl, hm, hf⟩
        have HM3 : Aside0 (Mine w1 w.heap.size v1 (bi (le4 ls.length ++ bodyL (ls.take 0)))) := ⟨by simpa [bodyL] using hm⟩
        have HF3 := Aside0.mk hf
        clear hm hf
        go_wp2_with fail
        go_loopw [6, 7] (fun v i wr => ∃ k : Nat, k ≤ ls.length ∧ i = .int .i64 k ∧ Aside0 (Mine wr w.heap.size v (bi (le4 ls.length ++ bodyL (ls.take k)))) ∧ Aside0 (Fr No w wr)) (fun _ i _ => ls.length - (intOf i).toNat)
        case atStart => exact ⟨0, by omega, rfl, HM3, HF3⟩
        case round =>
          clear HM3 HF3
          obtain ⟨k, hk, rfl, HM, HF⟩ := hrel
          by_cases hlt : k < ls.length
          · obtain ⟨ad, Ai, ci, rfl, hc0, hci, hra⟩ := HR.out.at_ k hlt
            have hc := HF.out.cell hc0 id
            have hsm := HL.out _ (List.getElem_mem hlt)
            have HC0 := Aside0.mk hc0
            have HRA := Aside0.mk hra
            have HSU := Aside0.mk (bodyL_succ ls k hlt)
            have HBD := Aside0.mk (frame_body ls k hlt)
            clear hra hci hc0
            generalize ls[k] = l at *
            generalize hpre : le4 ls.length ++ bodyL (ls.take k) = pre at HM HBD
            have HPR : Aside0 (le4 ls.length ++ bodyL (ls.take (k + 1)) = pre ++ le4 l.length ++ l) := ⟨by rw [HSU.out, ← hpre]; simp⟩
            clear HSU hpre
            have hlk : (k : Int) < (ls.length : Int) := by omega
            go_wp2_with fail
            refine (refFour_calls l.length w wr HF.out u6 (bi pre) HM.out (by have := HBD.out; have := HFN.out; rw [bi_length]; omega)).mono ?_
            rintro e w2 ⟨v2, rfl, hm, hf⟩
            have HM2 : Aside0 (Mine w2 w.heap.size v2 (bi (pre ++ le4 l.length ++ l.take 0))) := ⟨by simpa [bi_append] using hm⟩
            have HF2 := Aside0.mk hf
            clear hm hf hc HM HF
            go_wp2_with fail
            go_loopw [6, 8] (fun v i wr => ∃ j : Nat, j ≤ l.length ∧ i = .int .i64 j ∧ Aside0 (Mine wr w.heap.size v (bi (pre ++ le4 l.length ++ l.take j))) ∧ Aside0 (Fr No w wr)) (fun _ i _ => l.length - (intOf i).toNat)
            case atStart => exact ⟨0, by omega, rfl, HM2, HF2⟩
            case round =>
              clear HM2 HF2
              obtain ⟨j, hj, rfl, HM, HF⟩ := hrel
              have hcj := HF.out.cell HC0.out id
              by_cases hlj : j < l.length
              · obtain ⟨bd, hB, hcell⟩ := C_byte (C_fr HRA.out HF.out) j hlj
                subst hB
                have HT : Aside0 (bi (pre ++ le4 l.length ++ l.take j) ++ [un (b2w l[j])] = bi (pre ++ le4 l.length ++ l.take (j + 1))) := ⟨by rw [List.take_succ_eq_append_getElem hlj, ← List.append_assoc, bi_append _ [l[j]], un_b2w]; rfl⟩
                have HLL : Aside0 ((bi (pre ++ le4 l.length ++ l.take j)).length + 1 ≤ 140737488355328) := ⟨by have := HBD.out; have := HFN.out; rw [bi_length, List.length_append, List.length_append, le4_length, List.length_take]; omega⟩
                go_wp2_with (at_builtin; refine app_byte (w0 := w) rfl (.tmp 53) (.tmp 61) 22 rfl Tryd.underlying22 infoU8 u6 (bi (pre ++ le4 l.length ++ l.take j)) (un (b2w l[j])) rfl rfl HM.out HF.out HLL.out ?_; intro v3 w3 hm hf hg)
                rw [HT.out] at hm
                exact ⟨⟨j + 1, by omega, by go_num, ⟨hm⟩, ⟨hf⟩⟩, by simp [intOf]; omega⟩
              · obtain rfl : j = l.length := by omega
                rw [List.take_length, ← HPR.out] at HM
                go_wp2_with fail
                exact ⟨⟨k + 1, by omega, by go_num, HM, HF⟩, by simp [intOf]; omega⟩
          · obtain rfl : k = ls.length := by omega
            rw [frame_end] at HM
            go_wp2_with fail
            go_ret2
            exact ⟨_, by rw [HY.out.2]; rfl, by rw [HY.out.1]; exact HM.out, HF.out⟩
  · have HNO := Aside0.mk (frame_not (frameOk_long hn))
    go_wp2_with fail
    go_ret2
    exact ⟨.slice none 0 0, by rw [HNO.out.2]; rfl, by rw [HNO.out.1]; exact Mine.nil _ _, Fr.refl _ _⟩
end Go.Proofs.YtbaeddppihjgfaaDoor.Sg
