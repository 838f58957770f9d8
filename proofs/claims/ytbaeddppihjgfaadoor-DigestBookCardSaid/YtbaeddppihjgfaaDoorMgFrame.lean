/- Frames: what they are, and the walks of four and Frame, the program's and the reference's. -/
import Derived.Test.YtbaeddppihjgfaaDoorRooms
namespace Go.Proofs.YtbaeddppihjgfaaDoor.Sg
open Go Go.RowKit Go.Proofs.YtbaeddppihjgfaaDoorW.PrintWords
set_option linter.unusedVariables false
def le4 (n : Nat) : List UInt8 := [UInt8.ofNat n, UInt8.ofNat (n / 256), UInt8.ofNat (n / 65536), UInt8.ofNat (n / 16777216)]
theorem le4_length (n : Nat) : (le4 n).length = 4 := rfl
theorem le4_bi (n : Nat) : bi (le4 n) = [(n : Int) % 256, (n : Int) / 256 % 256, (n : Int) / 65536 % 256, (n : Int) / 16777216 % 256] := by
  simp [le4, bi]
def bodyL (ls : List (List UInt8)) : List UInt8 := ls.flatMap fun l => le4 l.length ++ l
def frameL (ls : List (List UInt8)) : List UInt8 := le4 ls.length ++ bodyL ls
def frameN : List (List UInt8) → Nat
  | [] => 4
  | l :: ls => 4 + l.length + frameN ls
theorem frameN_append (ls ms : List (List UInt8)) : frameN (ls ++ ms) + 4 = frameN ls + frameN ms := by
  induction ls with
  | nil => simp [frameN]; omega
  | cons l ls ih => simp only [List.cons_append, frameN]; omega
theorem bodyL_length (ls : List (List UInt8)) : (bodyL ls).length + 4 = frameN ls := by
  induction ls with
  | nil => rfl
  | cons l ls ih =>
    unfold bodyL at *
    simp only [List.flatMap_cons, List.length_append, le4_length, frameN]
    omega
theorem frameL_length (ls : List (List UInt8)) : (frameL ls).length = frameN ls := by
  unfold frameL
  rw [List.length_append, le4_length, ← bodyL_length]; omega
theorem bodyL_succ (ls : List (List UInt8)) (k : Nat) (hk : k < ls.length) : bodyL (ls.take (k + 1)) = bodyL (ls.take k) ++ le4 ls[k].length ++ ls[k] := by
  unfold bodyL
  rw [List.take_succ_eq_append_getElem hk, List.flatMap_append]
  simp
theorem frameN_succ (ls : List (List UInt8)) (k : Nat) (hk : k < ls.length) : frameN (ls.take (k + 1)) = frameN (ls.take k) + (4 + ls[k].length) := by
  have := frameN_append (ls.take k) [ls[k]]
  rw [← List.take_succ_eq_append_getElem hk] at this
  simp only [frameN] at this
  omega
theorem frameN_le (ls : List (List UInt8)) (k : Nat) : frameN (ls.take k) ≤ frameN ls := by
  have := frameN_append (ls.take k) (ls.drop k)
  rw [List.take_append_drop] at this
  have h4 : ∀ ms : List (List UInt8), 4 ≤ frameN ms := fun ms => by
    cases ms with
    | nil => simp [frameN]
    | cons _ _ => simp only [frameN]; omega
  have := h4 (ls.drop k)
  omega
def frameOk (ls : List (List UInt8)) : Bool := decide (ls.length ≤ 65536) && decide (frameN ls ≤ 67108864)
def frameB (ls : List (List UInt8)) : List UInt8 := if frameOk ls then frameL ls else []
def frameE (ls : List (List UInt8)) : Int := if frameOk ls then 0 else 2
set_option maxRecDepth 100000 in
set_option maxHeartbeats 1000000 in
theorem four_calls (n : Nat) (w : World) :
    Calls Tryd.prog 69 #[.int .i64 (n : Int)] w fun e w' => e = .returned (.slice (some ⟨w.heap.size, 0, none⟩) 4 4) ∧ Rb w' (some ⟨w.heap.size, 0, none⟩) (le4 n) ∧ Fr No w w' := by
  have HB := Aside0.mk (le4_bi n)
  have HR := Aside0.mk (lit_reads w (le4 n) (by rw [le4_length]; decide))
  rw [HB.out] at HR
  go_enter Tryd.func69, Tryd.ntmps69
  go_wp2
  go_ret
  exact ⟨rfl, HR.out, (Fr.refl No w).alloc _⟩
set_option maxRecDepth 100000 in
set_option maxHeartbeats 1000000 in
theorem refFour_calls (n : Nat) (wb w : World) (hF : Fr No wb w) (v : Value) (xs : List Int) (hm : Mine w wb.heap.size v xs) (hl : xs.length + 4 ≤ 140737488355328) :
    Calls Tryd.prog 81 #[v, .int .i64 (n : Int)] w fun e w' => ∃ v', e = .returned v' ∧ Mine w' wb.heap.size v' (xs ++ bi (le4 n)) ∧ Fr No wb w' := by
  have HM0 := Aside0.mk hm; have HF0 := Aside0.mk hF; have HL := Aside0.mk hl
  have HB := Aside0.mk (le4_bi n)
  clear hm hF hl
  go_enter Tryd.func81, Tryd.ntmps81
  go_wp2
  go_loopw [0, 5] (fun v i wr => ∃ k : Nat, k ≤ 4 ∧ i = .int .i64 k ∧ Aside0 (Mine wr wb.heap.size v (xs ++ (bi (le4 n)).take k)) ∧ Aside0 (Fr No wb wr)) (fun _ i _ => 4 - (intOf i).toNat)
  case atStart => exact ⟨0, by omega, rfl, ⟨by simpa using HM0.out⟩, HF0⟩
  case round =>
    clear HM0 HF0
    obtain ⟨k, hk, rfl, HM, HF⟩ := hrel
    by_cases hlt : k < 4
    · have HT : Aside0 ((bi (le4 n)).take k ++ [(n : Int) / 2 ^ (8 * k) % 256] = (bi (le4 n)).take (k + 1)) := ⟨by
        rw [HB.out]
        match k, hlt with
        | 0, _ => simp
        | 1, _ => rfl
        | 2, _ => rfl
        | 3, _ => rfl⟩
      have HLL : Aside0 ((xs ++ (bi (le4 n)).take k).length + 1 ≤ 140737488355328) := ⟨by have := HL.out; rw [List.length_append, List.length_take, bi_length, le4_length]; omega⟩
      go_wp2_with (at_builtin; refine app_byte (w0 := wb) rfl (.tmp 10) (.tmp 16) 22 rfl Tryd.underlying22 infoU8 u0 (xs ++ (bi (le4 n)).take k) ((n : Int) / 2 ^ (8 * k) % 256) rfl rfl HM.out HF.out HLL.out ?_; intro v1 w1 hm hf hg)
      rw [List.append_assoc, HT.out] at hm
      exact ⟨⟨k + 1, by omega, by go_num, ⟨hm⟩, ⟨hf⟩⟩, by simp [intOf]; omega⟩
    · obtain rfl : k = 4 := by omega
      have HMF : Aside0 (Mine wr wb.heap.size u0 (xs ++ bi (le4 n))) := ⟨by have := HM.out; rwa [List.take_of_length_le (by rw [bi_length, le4_length]; exact Nat.le_refl _)] at this⟩
      clear HM
      go_wp2
      go_ret
      exact ⟨_, rfl, HMF.out, HF.out⟩
end Go.Proofs.YtbaeddppihjgfaaDoor.Sg
namespace Go.Proofs.YtbaeddppihjgfaaDoor.Sg
open Go Go.RowKit Go.Proofs.YtbaeddppihjgfaaDoorW.PrintWords
set_option linter.unusedVariables false
theorem frameOk_true {ls : List (List UInt8)} (h1 : ls.length ≤ 65536) (h2 : frameN ls ≤ 67108864) : frameOk ls = true := by
  unfold frameOk; rw [decide_eq_true h1, decide_eq_true h2]; rfl
theorem frameOk_long {ls : List (List UInt8)} (h1 : ¬ ls.length ≤ 65536) : frameOk ls = false := by
  unfold frameOk; rw [decide_eq_false h1]; rfl
theorem frameOk_big {ls : List (List UInt8)} {k : Nat} (h1 : ¬ frameN (ls.take k) ≤ 67108864) : frameOk ls = false := by
  have := frameN_le ls k
  unfold frameOk; rw [decide_eq_false (show ¬ frameN ls ≤ 67108864 by omega), Bool.and_false]
theorem frame_not {ls : List (List UInt8)} (h : frameOk ls = false) : frameB ls = [] ∧ frameE ls = 2 := by unfold frameB frameE; rw [h]; exact ⟨rfl, rfl⟩
theorem frame_yes {ls : List (List UInt8)} (h : frameOk ls = true) : frameB ls = frameL ls ∧ frameE ls = 0 := by unfold frameB frameE; rw [h]; exact ⟨rfl, rfl⟩
theorem frame_end (ls : List (List UInt8)) : le4 ls.length ++ bodyL (ls.take ls.length) = frameL ls := by rw [List.take_length]; rfl
theorem frame_body (ls : List (List UInt8)) (k : Nat) (hk : k < ls.length) : (le4 ls.length ++ bodyL (ls.take k)).length + 4 + ls[k].length ≤ frameN ls := by
  have h1 := bodyL_length (ls.take (k + 1))
  have h2 := bodyL_length (ls.take k)
  have h3 := frameN_succ ls k hk
  have h4 := frameN_le ls (k + 1)
  rw [List.length_append, le4_length]
  omega
set_option maxRecDepth 100000 in
set_option maxHeartbeats 4000000 in
theorem frame_calls (ls : List (List UInt8)) (A : Option Addr) (c : Nat) (w : World) (hr : Rbs w A ls) (hl : ∀ l ∈ ls, l.length ≤ 140737488351232) :
    Calls Tryd.prog 44 #[.slice A ls.length c] w fun e w' => ∃ v, e = .returned (.tuple #[v, .int .i64 (frameE ls)]) ∧ Mine w' w.heap.size v (bi (frameB ls)) ∧ Fr No w w' := by
  have HR := Aside0.mk hr; have HL := Aside0.mk hl
  clear hr hl
  go_enter Tryd.func44, Tryd.ntmps44
  by_cases hn : ls.length ≤ 65536
  · go_wp2_with fail
    go_loop [4, 15] (fun a i => ∃ k : Nat, k ≤ ls.length ∧ i = .int .i64 k ∧ a = .int .i64 (frameN (ls.take k) : Nat) ∧ frameN (ls.take k) ≤ 67108864) (fun _ i => ls.length - (intOf i).toNat)
    case atStart => exact ⟨0, by omega, rfl, rfl, by simp [frameN]⟩
    case round =>
      obtain ⟨k, hk, rfl, rfl, hs⟩ := hrel
      by_cases hlt : k < ls.length
      · obtain ⟨ad, Ai, ci, rfl, hc, hci, hra⟩ := HR.out.at_ k hlt
        have hsm := HL.out _ (List.getElem_mem hlt)
        have HSU := frameN_succ ls k hlt
        clear hra hci
        have HBG := Aside0.mk (@frameOk_big ls (k + 1))
        rw [HSU] at HBG
        generalize ls[k] = l at *
        generalize frameN (ls.take k) = s at *
        by_cases hbig : s + (4 + l.length) ≤ 67108864
        · go_wp2_with fail
          refine ⟨⟨k + 1, by omega, by go_num, ?_, by omega⟩, by simp [intOf]; omega⟩
          rw [HSU]; congr 1
        · have HNO := Aside0.mk (frame_not (HBG.out hbig))
          clear HBG HSU
          go_wp2_with fail
          go_ret2
          exact ⟨.slice none 0 0, by rw [HNO.out.2]; rfl, by rw [HNO.out.1]; exact Mine.nil _ _, Fr.refl _ _⟩
      · obtain rfl : k = ls.length := by omega
        rw [List.take_length] at hs ⊢
        have HY := Aside0.mk (frame_yes (frameOk_true hn hs))
        have hmk := make0 (P := Tryd.prog) 22 Tryd.underlying22 infoU8 (frameN ls) (by omega)
        have HM1 := Aside0.mk (mine_made w (frameN ls) w.heap.size (Nat.le_refl _) (by unfold maxLen; omega))
        have HF1 : Aside0 (Fr No w (w.alloc (.cells (madeCells #[.int .u8 0] (frameN ls)) 5))) := ⟨(Fr.refl No w).alloc _⟩
        have HFN := Aside0.mk hs
        go_wp2_with fail
        clear hmk hs
        generalize w.alloc _ = w1 at HM1 HF1 ⊢
        refine (four_calls ls.length w1).mono ?_
        rintro e w2 ⟨rfl, hr, hf⟩
        have HR2 := Aside0.mk hr
        have HM2 : Aside0 (Mine w2 w.heap.size (.slice (some ⟨w.heap.size, 0, none⟩) 0 (frameN ls)) []) := ⟨HM1.out.fr hf (fun _ _ => id)⟩
        have HF2 : Aside0 (Fr No w w2) := ⟨HF1.out.then_ hf⟩
        clear hr hf HM1 HF1
        go_wp2_with (at_builtin; refine app_row (w0 := w) rfl _ _ 22 rfl Tryd.underlying22 infoU8 (.slice (some ⟨w.heap.size, 0, none⟩) 0 (frameN ls)) [] (bi (le4 ls.length)) _ 4 4 rfl rfl HM2.out HR2.out HF2.out (by decide) ?_; intro v1 w3 hm hf hg)
        have HM3 : Aside0 (Mine w3 w.heap.size v1 (bi (le4 ls.length ++ bodyL (ls.take 0)))) := ⟨by simpa [bodyL] using hm⟩
        have HF3 := Aside0.mk hf
        clear hm hf hg HM2 HF2 HR2
        go_loopw [7, 36] (fun v i wr => ∃ k : Nat, k ≤ ls.length ∧ i = .int .i64 k ∧ Aside0 (Mine wr w.heap.size v (bi (le4 ls.length ++ bodyL (ls.take k)))) ∧ Aside0 (Fr No w wr)) (fun _ i _ => ls.length - (intOf i).toNat)
        case atStart => exact ⟨0, by omega, rfl, HM3, HF3⟩
        case round =>
          clear HM3 HF3
          obtain ⟨k, hk, rfl, HM, HF⟩ := hrel
          by_cases hlt : k < ls.length
          · obtain ⟨ad, Ai, ci, rfl, hc0, hci, hra⟩ := HR.out.at_ k hlt
            have hc := HF.out.cell hc0 id
            have HRA := Aside0.mk hra
            have HSU := Aside0.mk (bodyL_succ ls k hlt)
            have HBD := Aside0.mk (frame_body ls k hlt)
            clear hra hci hc0
            generalize ls[k] = l at *
            generalize hpre : le4 ls.length ++ bodyL (ls.take k) = pre at HM HBD
            have HPR : Aside0 (le4 ls.length ++ bodyL (ls.take (k + 1)) = pre ++ le4 l.length ++ l) := ⟨by rw [HSU.out, ← hpre]; simp⟩
            clear HSU hpre
            go_wp2_with fail
            refine (four_calls l.length wr).mono ?_
            rintro e w4 ⟨rfl, hr, hf⟩
            have HR4 := Aside0.mk hr
            have HM4 : Aside0 (Mine w4 w.heap.size u7 (bi pre)) := ⟨HM.out.fr hf (fun _ _ => id)⟩
            have HF4 : Aside0 (Fr No w w4) := ⟨HF.out.then_ hf⟩
            have HL4 : Aside0 ((bi pre).length + 4 ≤ 140737488355328) := ⟨by have := HBD.out; have := HFN.out; rw [bi_length]; omega⟩
            clear hr hf HM HF hc
            go_wp2_with (first
              | (at_builtin; refine app_row (w0 := w) rfl (.tmp 40) (.tmp 43) 22 rfl Tryd.underlying22 infoU8 u7 (bi pre) (bi (le4 l.length)) _ 4 4 rfl rfl HM4.out HR4.out HF4.out HL4.out ?_
                 intro v5 w5 hm5 hf5 hg5
                 have HM5 : Aside0 (Mine w5 w.heap.size v5 (bi (pre ++ le4 l.length))) := ⟨by rw [bi_append]; exact hm5⟩
                 have HF5 := Aside0.mk hf5
                 have HRL5 : Aside0 (Rb w5 Ai l) := ⟨C_fr HRA.out hf5⟩
                 have HL5 : Aside0 ((bi (pre ++ le4 l.length)).length + l.length ≤ 140737488355328) := ⟨by have := HBD.out; have := HFN.out; rw [bi_length, List.length_append, le4_length]; omega⟩
                 clear hm5 hf5 hg5)
              | (at_builtin; refine app_row (w0 := w) rfl (.tmp 45) (.tmp 46) 22 rfl Tryd.underlying22 infoU8 v5 (bi (pre ++ le4 l.length)) (bi l) Ai l.length ci rfl rfl HM5.out HRL5.out HF5.out HL5.out ?_
                 intro v6 w6 hm6 hf6 hg6))
            rw [← bi_append, ← HPR.out] at hm6
            exact ⟨⟨k + 1, by omega, by go_num, ⟨hm6⟩, ⟨hf6⟩⟩, by simp [intOf]; omega⟩
          · obtain rfl : k = ls.length := by omega
            rw [frame_end] at HM
            go_wp2_with fail
            go_ret2
            exact ⟨_, by rw [HY.out.2]; rfl, by rw [HY.out.1]; exact HM.out, HF.out⟩
  · have HNO := Aside0.mk (frame_not (frameOk_long hn))
    go_wp2_with fail
    go_ret2
    exact ⟨.slice none 0 0, by rw [HNO.out.2]; rfl, by rw [HNO.out.1]; exact Mine.nil _ _, Fr.refl _ _⟩
end Go.Proofs.YtbaeddppihjgfaaDoor.Sg
namespace Go.Proofs.YtbaeddppihjgfaaDoor.Sg
open Go Go.RowKit Go.Proofs.YtbaeddppihjgfaaDoorW.PrintWords
set_option linter.unusedVariables false
theorem frameN_ge (ls : List (List UInt8)) : 4 ≤ frameN ls := by
  cases ls with
  | nil => simp [frameN]
  | cons _ _ => simp only [frameN]; omega
set_option maxRecDepth 100000 in
set_option maxHeartbeats 4000000 in
theorem refFrame_calls (ls : List (List UInt8)) (A : Option Addr) (c : Nat) (w : World) (hr : Rbs w A ls) (hl : ∀ l ∈ ls, l.length ≤ 140737488351232) :
    Calls Tryd.prog 60 #[.slice A ls.length c] w fun e w' => ∃ v, e = .returned (.tuple #[v, .int .i64 (frameE ls)]) ∧ Mine w' w.heap.size v (bi (frameB ls)) ∧ Fr No w w' := by
  have HR := Aside0.mk hr; have HL := Aside0.mk hl
  clear hr hl
  go_enter Tryd.func60, Tryd.ntmps60
  by_cases hn : ls.length ≤ 65536
  · go_wp2_with fail
    go_loop [4, 5] (fun a i => ∃ k : Nat, k ≤ ls.length ∧ i = .int .i64 k ∧ a = .int .i64 (frameN (ls.take k) : Nat) ∧ frameN (ls.take k) ≤ 67108864) (fun _ i => ls.length - (intOf i).toNat)
    case atStart => exact ⟨0, by omega, rfl, rfl, by simp [frameN]⟩
    case round =>
      obtain ⟨k, hk, rfl, rfl, hs⟩ := hrel
      by_cases hlt : k < ls.length
      · obtain ⟨ad, Ai, ci, rfl, hc, hci, hra⟩ := HR.out.at_ k hlt
        have hsm := HL.out _ (List.getElem_mem hlt)
        have HSU := frameN_succ ls k hlt
        clear hra hci
        have HBG := Aside0.mk (@frameOk_big ls (k + 1))
        rw [HSU] at HBG
        generalize ls[k] = l at *
        generalize frameN (ls.take k) = s at *
        by_cases hbig : s + (4 + l.length) ≤ 67108864
        · go_wp2_with fail
          refine ⟨⟨k + 1, by omega, by go_num, ?_, by omega⟩, by simp [intOf]; omega⟩
          rw [HSU]; congr 1; omega
        · have HNO := Aside0.mk (frame_not (HBG.out hbig))
          clear HBG HSU
          go_wp2_with fail
          go_ret2
          exact ⟨.slice none 0 0, by rw [HNO.out.2]; rfl, by rw [HNO.out.1]; exact Mine.nil _ _, Fr.refl _ _⟩
      · obtain rfl : k = ls.length := by omega
        rw [List.take_length] at hs ⊢
        have HY := Aside0.mk (frame_yes (frameOk_true hn hs))
        have HFN := Aside0.mk hs
        clear hs
        go_wp2_with fail
        refine (refFour_calls ls.length w w (Fr.refl _ _) (.slice none 0 0) [] (Mine.nil _ _) (by decide)).mono ?_
        rintro e w1 ⟨v1, rfl, hm, hf⟩
        have HM3 : Aside0 (Mine w1 w.heap.size v1 (bi (le4 ls.length ++ bodyL (ls.take 0)))) := ⟨by simpa [bodyL] using hm⟩
        have HF3 := Aside0.mk hf
        clear hm hf
        go_wp2_with fail
        go_loopw [6, 7] (fun v i wr => ∃ k : Nat, k ≤ ls.length ∧ i = .int .i64 k ∧ Aside0 (Mine wr w.heap.size v (bi (le4 ls.length ++ bodyL (ls.take k)))) ∧ Aside0 (Fr No w wr)) (fun _ i _ => ls.length - (intOf i).toNat)
        case atStart => exact ⟨0, by omega, rfl, HM3, HF3⟩
        case round =>
          clear HM3 HF3
          obtain ⟨k, hk, rfl, HM, HF⟩ := hrel
          by_cases hlt : k < ls.length
          · obtain ⟨ad, Ai, ci, rfl, hc0, hci, hra⟩ := HR.out.at_ k hlt
            have hc := HF.out.cell hc0 id
            have hsm := HL.out _ (List.getElem_mem hlt)
            have HC0 := Aside0.mk hc0
            have HRA := Aside0.mk hra
            have HSU := Aside0.mk (bodyL_succ ls k hlt)
            have HBD := Aside0.mk (frame_body ls k hlt)
            clear hra hci hc0
            generalize ls[k] = l at *
            generalize hpre : le4 ls.length ++ bodyL (ls.take k) = pre at HM HBD
            have HPR : Aside0 (le4 ls.length ++ bodyL (ls.take (k + 1)) = pre ++ le4 l.length ++ l) := ⟨by rw [HSU.out, ← hpre]; simp⟩
            clear HSU hpre
            have hlk : (k : Int) < (ls.length : Int) := by omega
            go_wp2_with fail
            refine (refFour_calls l.length w wr HF.out u6 (bi pre) HM.out (by have := HBD.out; have := HFN.out; rw [bi_length]; omega)).mono ?_
            rintro e w2 ⟨v2, rfl, hm, hf⟩
            have HM2 : Aside0 (Mine w2 w.heap.size v2 (bi (pre ++ le4 l.length ++ l.take 0))) := ⟨by simpa [bi_append] using hm⟩
            have HF2 := Aside0.mk hf
            clear hm hf hc HM HF
            go_wp2_with fail
            go_loopw [6, 8] (fun v i wr => ∃ j : Nat, j ≤ l.length ∧ i = .int .i64 j ∧ Aside0 (Mine wr w.heap.size v (bi (pre ++ le4 l.length ++ l.take j))) ∧ Aside0 (Fr No w wr)) (fun _ i _ => l.length - (intOf i).toNat)
            case atStart => exact ⟨0, by omega, rfl, HM2, HF2⟩
            case round =>
              clear HM2 HF2
              obtain ⟨j, hj, rfl, HM, HF⟩ := hrel
              have hcj := HF.out.cell HC0.out id
              by_cases hlj : j < l.length
              · obtain ⟨bd, hB, hcell⟩ := C_byte (C_fr HRA.out HF.out) j hlj
                subst hB
                have HT : Aside0 (bi (pre ++ le4 l.length ++ l.take j) ++ [un (b2w l[j])] = bi (pre ++ le4 l.length ++ l.take (j + 1))) := ⟨by rw [List.take_succ_eq_append_getElem hlj, ← List.append_assoc, bi_append _ [l[j]], un_b2w]; rfl⟩
                have HLL : Aside0 ((bi (pre ++ le4 l.length ++ l.take j)).length + 1 ≤ 140737488355328) := ⟨by have := HBD.out; have := HFN.out; rw [bi_length, List.length_append, List.length_append, le4_length, List.length_take]; omega⟩
                go_wp2_with (at_builtin; refine app_byte (w0 := w) rfl (.tmp 53) (.tmp 61) 22 rfl Tryd.underlying22 infoU8 u6 (bi (pre ++ le4 l.length ++ l.take j)) (un (b2w l[j])) rfl rfl HM.out HF.out HLL.out ?_; intro v3 w3 hm hf hg)
                rw [HT.out] at hm
                exact ⟨⟨j + 1, by omega, by go_num, ⟨hm⟩, ⟨hf⟩⟩, by simp [intOf]; omega⟩
              · obtain rfl : j = l.length := by omega
                rw [List.take_length, ← HPR.out] at HM
                go_wp2_with fail
                exact ⟨⟨k + 1, by omega, by go_num, HM, HF⟩, by simp [intOf]; omega⟩
          · obtain rfl : k = ls.length := by omega
            rw [frame_end] at HM
            go_wp2_with fail
            go_ret2
            exact ⟨_, by rw [HY.out.2]; rfl, by rw [HY.out.1]; exact HM.out, HF.out⟩
  · have HNO := Aside0.mk (frame_not (frameOk_long hn))
    go_wp2_with fail
    go_ret2
    exact ⟨.slice none 0 0, by rw [HNO.out.2]; rfl, by rw [HNO.out.1]; exact Mine.nil _ _, Fr.refl _ _⟩
end Go.Proofs.YtbaeddppihjgfaaDoor.Sg
