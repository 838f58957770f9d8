/- The walk of the program's Parts: the lists that it gives are its own, no two in one block. -/
import Derived.Test.YtbaeddppihjgfaaDoorMgParts
import Derived.Test.YtbaeddppihjgfaaDoorRegionK
namespace Go.Proofs.YtbaeddppihjgfaaDoor.Sg
open Go Go.RowKit Go.Proofs.YtbaeddppihjgfaaDoorW.PrintWords
set_option linter.unusedVariables false
set_option maxRecDepth 100000 in
set_option maxHeartbeats 4000000 in
theorem partsS_calls (l : List UInt8) (A : Option Addr) (c : Nat) (w : World) (hr : Rb w A l) (hc : l.length ≤ c) (hl : l.length ≤ 140737488351232) :
    Calls Tryd.prog 45 #[.slice A l.length c] w fun e w' => ∃ v, e = .returned (.tuple #[v, .int .i64 (partsE l)]) ∧ LOwn w' w.heap.size v (partsL l) ∧ Fr No w w' := by
  have HR := Aside0.mk hr
  clear hr
  obtain ⟨W0, hW0, hb0, hf0⟩ : ∃ W0, W0 = w.alloc (.cells #[.slice A l.length c] 22) ∧ BoxS W0 w.heap.size (.slice A l.length c) ∧ Fr No w W0 := ⟨_, rfl, heap_alloc_new w _, (Fr.refl No w).alloc _⟩
  have hz0 : W0.heap.size = w.heap.size + 1 := by rw [hW0]; simp
  have HB0 := Aside0.mk hb0; have HF0 := Aside0.mk hf0; have HW0 := Aside0.mk hW0; have HZ0 := Aside0.mk hz0
  have c0 := hb0.cell
  rw [hW0] at c0
  clear hb0 hf0 hz0 hW0
  go_enter Tryd.func45, Tryd.ntmps45
  by_cases hlong : 67108864 < l.length
  · have HNO := Aside0.mk (parts_long hlong)
    go_wp2_with fail
    go_ret2
    rw [HNO.out.1, HNO.out.2]
    exact ⟨.slice none 0 0, rfl, Kd.S_nil _ _ _ _ _, (Fr.refl No w).alloc _⟩
  · obtain ⟨W1, hW1, hi1, hf1⟩ : ∃ W1, W1 = W0.alloc (.cells #[.int .i64 0] 3) ∧ IntAt W1 W0.heap.size 0 ∧ Fr No W0 W1 := ⟨_, rfl, heap_alloc_new W0 _, (Fr.refl No W0).alloc _⟩
    have HI1 : Aside0 (IntAt W1 (w.heap.size + 1) ((0 : Nat) : Int)) := ⟨by rw [← HZ0.out]; exact hi1⟩
    have HB1 : Aside0 (BoxS W1 w.heap.size (.slice A l.length c)) := ⟨HB0.out.fr hf1 id⟩
    have HF1 : Aside0 (Fr No w W1) := ⟨HF0.out.then_ hf1⟩
    rw [HW0.out] at hW1
    have HW1 := Aside0.mk hW1
    clear hi1 hf1 hW1 HB0 HF0 HW0 HZ0
    go_wp2_with fail
    rw [← HW1.out]
    clear c0 HW1
    refine (num_calls l 0 A c w.heap.size (w.heap.size + 1) W1 HB1.out HI1.out hc (fun w' hf => C_fr HR.out (HF1.out.trans hf (fun b hb => .inr (by omega)))) (by omega) (by omega)).mono ?_
    rintro e w2 ⟨rfl, hi, hf⟩
    have HB2 : Aside0 (BoxS w2 w.heap.size (.slice A l.length c)) := ⟨HB1.out.fr hf (by omega)⟩
    have HF2 : Aside0 (Fr No w w2) := ⟨HF1.out.trans hf (fun b hb => .inr (by omega))⟩
    clear HB1 HF1 HI1 hf
    by_cases h4 : 4 ≤ l.length
    · have hn0 : numI l 0 = (numV l 0 : Int) := if_pos (by omega)
      rw [if_pos (by omega)] at hi
      rw [hn0]
      clear hn0
      have HI2 : Aside0 (IntAt w2 (w.heap.size + 1) ((4 : Nat) : Int)) := ⟨hi⟩
      clear hi
      obtain ⟨n0, hn0⟩ : ∃ n0 : Nat, numV l 0 = n0 := ⟨_, rfl⟩
      have HN0 := Aside0.mk hn0
      rw [hn0]
      clear hn0
      by_cases h6 : n0 ≤ 65536
      · have HX : Aside0 (partsGo l (n0 - 0) 4 [] = partsGo l (numV l 0) 4 []) := ⟨by rw [HN0.out]; rfl⟩
        have HHD : Aside0 (4 ≤ l.length ∧ numV l 0 ≤ 65536) := ⟨⟨h4, by rw [HN0.out]; exact h6⟩⟩
        have hw2 : w.heap.size + 2 ≤ w2.heap.size := by have := HI2.out.lt; omega
        have HZ2 := Aside0.mk hw2
        clear hw2
        go_wp2_with fail
        go_loopw [7, 22] (fun v i wr => ∃ (j k : Nat) (out : List (List UInt8)), j ≤ n0 ∧ i = .int .i64 j ∧ k ≤ l.length ∧ Aside0 (partsGo l (n0 - j) k out = partsGo l (numV l 0) 4 []) ∧ Aside0 (out.length = j) ∧ Aside0 (Kd.S KB 22 wr w.heap.size (fun b => w.heap.size + 2 ≤ b) v (out.map bi)) ∧ Aside0 (IntAt wr (w.heap.size + 1) (k : Int)) ∧ Aside0 (BoxS wr w.heap.size (.slice A l.length c)) ∧ Aside0 (Fr No w wr)) (fun _ i _ => n0 - (intOf i).toNat)
        case atStart => exact ⟨0, 4, [], by omega, rfl, h4, HX, ⟨rfl⟩, ⟨Kd.S_nil _ _ _ _ _⟩, HI2, HB2, HF2⟩
        case round =>
          clear HX HI2 HB2 HF2
          obtain ⟨j, k, out, hj, rfl, hk, HX, HOL, HO, HI, HB, HF⟩ := hrel
          have HZ : Aside0 (w.heap.size + 2 ≤ wr.heap.size) := ⟨by have := HI.out.lt; omega⟩
          by_cases hlt : j < n0
          · go_wp2_with fail
            refine (num_calls l k A c w.heap.size (w.heap.size + 1) wr HB.out HI.out hc (fun w' hf => C_fr HR.out (HF.out.trans hf (fun b hb => .inr (by omega)))) (by omega) hk).mono ?_
            rintro e w3 ⟨rfl, hi, hf⟩
            have HB3 : Aside0 (BoxS w3 w.heap.size (.slice A l.length c)) := ⟨HB.out.fr hf (by omega)⟩
            have HF3 : Aside0 (Fr No w w3) := ⟨HF.out.trans hf (fun b hb => .inr (by omega))⟩
            have HO3 : Aside0 (Kd.S KB 22 w3 w.heap.size (fun b => w.heap.size + 2 ≤ b) u7 (out.map bi)) := ⟨Kd.S_step HO.out (fun b hb hlt => hf.block b hlt (fun hS => by omega))⟩
            have HZ3 : Aside0 (w.heap.size + 2 ≤ w3.heap.size) := ⟨Nat.le_trans HZ.out hf.size⟩
            clear HB HF HO HI HZ hf
            obtain ⟨m, hmv⟩ : ∃ m : Nat, numV l k = m := ⟨_, rfl⟩
            have HMV := Aside0.mk hmv
            have hne : n0 - j = (n0 - (j + 1)) + 1 := by omega
            rw [hne] at HX
            clear hne
            by_cases hk4 : k + 4 ≤ l.length
            · have hn0 : numI l k = (m : Int) := by rw [← hmv]; exact if_pos hk4
              rw [if_pos hk4] at hi
              rw [hn0]
              clear hn0
              obtain ⟨q, hq⟩ : ∃ q : Nat, k + 4 = q := ⟨_, rfl⟩
              have hqi : (k : Int) + 4 = (q : Int) := by omega
              rw [hqi] at hi
              have HI3 := Aside0.mk hi
              have cb := HB3.out.cell
              have ci := HI3.out.cell
              have HQ := Aside0.mk hq
              clear hi hmv hqi
              by_cases hm : q + m ≤ l.length
              · rw [partsGo_step (by rw [HQ.out, HMV.out]; exact hm)] at HX
                rw [HQ.out, HMV.out] at HX
                have hml : m ≤ 4294967296 := by have := numV_lt l k; have := HMV.out; omega
                have HPL : Aside0 ((partAt l k).length = m) := ⟨by rw [partAt_length (by rw [HQ.out, HMV.out]; exact hm)]; exact HMV.out⟩
                have HPA : Aside0 ((l.drop q).take m = partAt l k) := ⟨by unfold partAt; rw [HMV.out, HQ.out]⟩
                go_upto_region 14 with fail
                go_cut [7] (fun v7 wx => Aside0 (Kd.S KB 22 wx w.heap.size (fun b => w.heap.size + 2 ≤ b) v7 ((out ++ [partAt l k]).map bi)) ∧ Aside0 (IntAt wx (w.heap.size + 1) (q : Int)) ∧ Aside0 (BoxS wx w.heap.size (.slice A l.length c)) ∧ Aside0 (Fr No w wx))
                case first =>
                  have HNIL : Aside0 (Mine w3 w3.heap.size (.slice none 0 0) []) := ⟨Mine.nil _ _⟩
                  have HFR : Aside0 (Fr No w3 w3) := ⟨Fr.refl _ _⟩
                  have HRB : Aside0 (Kd.C (Kd.int .u8) w3 (if c = q then A else A.map (·.add q)) (q + m - q) (bi (partAt l k))) := ⟨by
                    rw [Nat.add_sub_cancel_left]
                    have h1 := Rb_take (Rb_drop (C_fr HR.out HF3.out) q (by omega) hc) m (by rw [List.length_drop]; omega)
                    rw [HPA.out] at h1
                    unfold Rb at h1
                    rwa [HPL.out] at h1⟩
                  have HLM : Aside0 (([] : List Int).length + (q + m - q) ≤ 140737488355328) := ⟨by simp only [List.length_nil]; omega⟩
                  have HOK : Aside0 (∀ b, w3.heap.size ≤ b → w.heap.size + 2 ≤ b ∧ some b ≠ u7.ownBlock) := ⟨fun b hb => ⟨by have := HZ3.out; omega, fun he => by
                    have := Kd.S_lt HO3.out b he.symm
                    omega⟩⟩
                  have HLN : Aside0 (((out.map bi).length + 1) * 24 ≤ 140737488355328) := ⟨by rw [List.length_map, HOL.out]; omega⟩
                  by_cases hcq : c = q
                  · rw [if_pos hcq] at HRB
                    subst hcq
                    go_wp2_with (first
                      | (at_builtin; refine app_row (w0 := w3) rfl (.const (.slice none 0 0)) (.tmp 42) 22 rfl Tryd.underlying22 infoU8 (.slice none 0 0) [] (bi (partAt l k)) _ (c + m - c) _ rfl rfl HNIL.out HRB.out HFR.out HLM.out ?_
                         intro v5 w5 hm5 hf5 hg5
                         rw [List.nil_append] at hm5
                         have hm5a := hm5
                         obtain ⟨A5, c5, rfl, _, _⟩ := hm5a.reads
                         have HP5 : Aside0 (KB.M w5 w.heap.size (fun b => w3.heap.size ≤ b) (bi (partAt l k)) [.slice A5 (partAt l k).length c5]) := ⟨⟨_, rfl, Kd.R_mono (Kd.R_lower (Kd.R_bound hm5) (by have := HZ3.out; omega)) (fun b hb => hb.2.1)⟩⟩
                         have HO5 : Aside0 (Kd.S KB 22 w5 w.heap.size (fun b => w.heap.size + 2 ≤ b ∧ ¬ w3.heap.size ≤ b) u7 (out.map bi)) := ⟨Kd.S_below (Kd.S_mono (Kd.S_bound HO3.out) (fun k hk => ⟨hk.1, by have := hk.2.2.1; omega⟩)) hf5.below⟩
                         have HZ5 : Aside0 (w3.heap.size ≤ w5.heap.size) := ⟨hf5.size⟩
                         have HB5 : Aside0 (BoxS w5 w.heap.size (.slice A l.length c)) := ⟨HB3.out.fr hf5 id⟩
                         have HI5 : Aside0 (IntAt w5 (w.heap.size + 1) (c : Int)) := ⟨HI3.out.fr hf5 id⟩
                         have HF5 : Aside0 (Fr No w w5) := ⟨HF3.out.then_ hf5⟩
                         clear hm5 hf5 hg5)
                      | (at_builtin; refine Kd.S_append KB (w0 := w5) w.heap.size rfl (.tmp 36) (.tmp 44) 34 22 (.slice none 0 0) 24 rfl Tryd.underlying34 infoRow rfl (by decide) (by decide) u7 (out.map bi) (bi (partAt l k)) [.slice A5 (partAt l k).length c5] (fun b => w.heap.size + 2 ≤ b) (fun b => w3.heap.size ≤ b) rfl rfl HP5.out HOK.out (fun b hb => by have := HZ3.out; have := HZ5.out; omega) HO5.out (Below.refl _ _) (by have := HZ3.out; have := HZ5.out; omega) HLN.out ?_
                         intro v6 w6 hr6 hb6 hg6 hat6))
                    go_meet
                    have hgr : Fr (fun b => u7.ownBlock = some b) w5 w6 := (Fr.refl (fun b => u7.ownBlock = some b) w5).grown hg6 (fun b hb => .inl hb)
                    exact ⟨⟨by rw [List.map_append]; exact hr6⟩, ⟨HI5.out.fr hgr (fun h => by have := (Kd.S_R HO5.out).1 _ h; omega)⟩, ⟨HB5.out.fr hgr (fun h => by have := (Kd.S_R HO5.out).1 _ h; omega)⟩, ⟨HF5.out.trans hgr (fun b hb => .inr (by have := (Kd.S_R HO5.out).1 _ hb; omega))⟩⟩
                  · rw [if_neg hcq] at HRB
                    go_wp2_with (first
                      | (at_builtin; refine app_row (w0 := w3) rfl (.const (.slice none 0 0)) (.tmp 42) 22 rfl Tryd.underlying22 infoU8 (.slice none 0 0) [] (bi (partAt l k)) _ (q + m - q) _ rfl rfl HNIL.out HRB.out HFR.out HLM.out ?_
                         intro v5 w5 hm5 hf5 hg5
                         rw [List.nil_append] at hm5
                         have hm5a := hm5
                         obtain ⟨A5, c5, rfl, _, _⟩ := hm5a.reads
                         have HP5 : Aside0 (KB.M w5 w.heap.size (fun b => w3.heap.size ≤ b) (bi (partAt l k)) [.slice A5 (partAt l k).length c5]) := ⟨⟨_, rfl, Kd.R_mono (Kd.R_lower (Kd.R_bound hm5) (by have := HZ3.out; omega)) (fun b hb => hb.2.1)⟩⟩
                         have HO5 : Aside0 (Kd.S KB 22 w5 w.heap.size (fun b => w.heap.size + 2 ≤ b ∧ ¬ w3.heap.size ≤ b) u7 (out.map bi)) := ⟨Kd.S_below (Kd.S_mono (Kd.S_bound HO3.out) (fun k hk => ⟨hk.1, by have := hk.2.2.1; omega⟩)) hf5.below⟩
                         have HZ5 : Aside0 (w3.heap.size ≤ w5.heap.size) := ⟨hf5.size⟩
                         have HB5 : Aside0 (BoxS w5 w.heap.size (.slice A l.length c)) := ⟨HB3.out.fr hf5 id⟩
                         have HI5 : Aside0 (IntAt w5 (w.heap.size + 1) (q : Int)) := ⟨HI3.out.fr hf5 id⟩
                         have HF5 : Aside0 (Fr No w w5) := ⟨HF3.out.then_ hf5⟩
                         clear hm5 hf5 hg5)
                      | (at_builtin; refine Kd.S_append KB (w0 := w5) w.heap.size rfl (.tmp 36) (.tmp 44) 34 22 (.slice none 0 0) 24 rfl Tryd.underlying34 infoRow rfl (by decide) (by decide) u7 (out.map bi) (bi (partAt l k)) [.slice A5 (partAt l k).length c5] (fun b => w.heap.size + 2 ≤ b) (fun b => w3.heap.size ≤ b) rfl rfl HP5.out HOK.out (fun b hb => by have := HZ3.out; have := HZ5.out; omega) HO5.out (Below.refl _ _) (by have := HZ3.out; have := HZ5.out; omega) HLN.out ?_
                         intro v6 w6 hr6 hb6 hg6 hat6))
                    go_meet
                    have hgr : Fr (fun b => u7.ownBlock = some b) w5 w6 := (Fr.refl (fun b => u7.ownBlock = some b) w5).grown hg6 (fun b hb => .inl hb)
                    exact ⟨⟨by rw [List.map_append]; exact hr6⟩, ⟨HI5.out.fr hgr (fun h => by have := (Kd.S_R HO5.out).1 _ h; omega)⟩, ⟨HB5.out.fr hgr (fun h => by have := (Kd.S_R HO5.out).1 _ h; omega)⟩, ⟨HF5.out.trans hgr (fun b hb => .inr (by have := (Kd.S_R HO5.out).1 _ hb; omega))⟩⟩
                case rest =>
                  obtain ⟨HO6, HI6, HB6, HF6⟩ := hcut
                  have ci6 := HI6.out.cell
                  have cf6 := HI6.out.free
                  have HI7 := Aside0.mk (HI6.out.set ((q : Int) + (m : Int)))
                  have hqm : q + m ≤ 67108864 := by omega
                  clear cb ci
                  go_wp2_with fail
                  refine ⟨⟨j + 1, q + m, out ++ [partAt l k], by omega, by go_num, hm, HX, ⟨by rw [List.length_append, HOL.out]; rfl⟩, ⟨Kd.S_step HO6.out (fun b hb hlt => ((Fr.refl (fun b => b = w.heap.size + 1) wc).setCell (.inl rfl) _).block b hlt (fun hS => by omega))⟩, ⟨by push_cast; exact HI7.out⟩, ⟨HB6.out.fr ((Fr.refl (fun b => b = w.heap.size + 1) wc).setCell (.inl rfl) _) (by omega)⟩, ⟨HF6.out.setCell (.inr (by simp only []; omega)) _⟩⟩, by simp [intOf]; omega⟩
              · have HNO := Aside0.mk (parts_bad hlong (partsX_go HHD.out (by rw [← HX.out]; exact partsGo_stop (by rw [HQ.out, HMV.out]; exact hm))))
                go_wp2_with fail
                go_ret2
                rw [HNO.out.1, HNO.out.2]
                exact ⟨.slice none 0 0, rfl, Kd.S_nil _ _ _ _ _, HF3.out⟩
            · have hn0 : numI l k = -1 := if_neg hk4
              have HNO := Aside0.mk (parts_bad hlong (partsX_go HHD.out (by rw [← HX.out]; exact partsGo_stop (by omega))))
              rw [hn0]
              clear hn0
              go_wp2_with fail
              go_ret2
              rw [HNO.out.1, HNO.out.2]
              exact ⟨.slice none 0 0, rfl, Kd.S_nil _ _ _ _ _, HF3.out⟩
          · obtain rfl : j = n0 := by omega
            rw [Nat.sub_self] at HX
            have HXE : Aside0 (partsX l = if k = l.length then some out else none) := ⟨partsX_end HHD.out HX.out.symm⟩
            have cb := HB.out.cell
            have ci := HI.out.cell
            clear HX
            by_cases hke : k = l.length
            · have HNO := Aside0.mk (parts_good (out := out) hlong (by rw [HXE.out, if_pos hke]))
              have hbe : ((k : Int) == (l.length : Int)) = true := by rw [hke]; exact beq_self_eq_true _
              have HRE : Aside0 (Kd.S KB 22 wr w.heap.size (fun b => w.heap.size ≤ b) u7 (out.map bi)) := ⟨Kd.S_mono HO.out (fun b hb => by omega)⟩
              clear hke HXE
              go_wp2_with fail
              go_ret2
              rw [HNO.out.1, HNO.out.2]
              exact ⟨_, rfl, HRE.out, HF.out⟩
            · have HNO := Aside0.mk (parts_bad hlong (by rw [HXE.out, if_neg hke]))
              have hbe : ((k : Int) == (l.length : Int)) = false := beq_eq_false_iff_ne.2 (by omega)
              go_wp2_with fail
              go_ret2
              rw [HNO.out.1, HNO.out.2]
              exact ⟨.slice none 0 0, rfl, Kd.S_nil _ _ _ _ _, HF.out⟩
      · have HNO := Aside0.mk (parts_bad hlong (partsX_head (l := l) (by rw [HN0.out]; omega)))
        go_wp2_with fail
        go_ret2
        rw [HNO.out.1, HNO.out.2]
        exact ⟨.slice none 0 0, rfl, Kd.S_nil _ _ _ _ _, HF2.out⟩
    · have hn0 : numI l 0 = -1 := if_neg (by omega)
      have HNO := Aside0.mk (parts_bad hlong (partsX_head (l := l) (by omega)))
      rw [hn0]
      clear hn0
      go_wp2_with fail
      go_ret2
      rw [HNO.out.1, HNO.out.2]
      exact ⟨.slice none 0 0, rfl, Kd.S_nil _ _ _ _ _, HF2.out⟩
end Go.Proofs.YtbaeddppihjgfaaDoor.Sg
