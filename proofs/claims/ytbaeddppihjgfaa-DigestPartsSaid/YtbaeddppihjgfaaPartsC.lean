/- The walk of the reference's Parts. -/
import Derived.Test.YtbaeddppihjgfaaPartsB
namespace Go.Proofs.Ytbaeddppihjgfaa.Sg
open Go Go.RowKit Go.Proofs.YtbaeddppihjgfaaW.PrintWords
set_option linter.unusedVariables false
theorem partAt_get {l : List UInt8} {k q m j : Nat} (hq : k + 4 = q) (hm : numV l k = m) (hle : q + m ≤ l.length) (hj : j < m) : (partAt l k).take (j + 1) = (partAt l k).take j ++ [l[q + j]'(by omega)] := by
  have hl : j < (partAt l k).length := by rw [partAt_length (by omega)]; omega
  have h1 : (partAt l k)[j]? = some (l[q + j]'(by omega)) := by
    unfold partAt
    rw [List.getElem?_take_of_lt (by omega), List.getElem?_drop, show k + 4 + j = q + j by omega, List.getElem?_eq_getElem]
  rw [List.getElem?_eq_getElem hl] at h1
  rw [List.take_succ_eq_append_getElem hl, Option.some.inj h1]
set_option maxRecDepth 100000 in
set_option maxHeartbeats 4000000 in
theorem refParts_calls (l : List UInt8) (A : Option Addr) (c : Nat) (w : World) (hr : Rb w A l) (hl : l.length ≤ 140737488351232) :
    Calls Try.prog 34 #[.slice A l.length c] w fun e w' => ∃ v, e = .returned (.tuple #[v, .int .i64 (partsE l)]) ∧ Kd.R KB 25 w' w.heap.size (fun b => w.heap.size ≤ b) v ((partsL l).map bi) ∧ Fr No w w' := by
  have HR := Aside0.mk hr
  clear hr
  go_enter Try.func34, Try.ntmps34
  by_cases hlong : 67108864 < l.length
  · have HNO := Aside0.mk (parts_long hlong)
    go_wp2_with fail
    go_ret2
    rw [HNO.out.1, HNO.out.2]
    exact ⟨.slice none 0 0, rfl, Kd.R_nil _ _ _ _ _, Fr.refl _ _⟩
  · go_wp2_with fail
    refine (number_calls l 0 A c w HR.out hl (by omega)).mono ?_
    rintro e w2 ⟨rfl, hf⟩
    have HF2 := Aside0.mk hf
    clear hf
    by_cases h4 : 4 ≤ l.length
    · have hn0 : numI l 0 = (numV l 0 : Int) := if_pos (by omega)
      rw [hn0]
      clear hn0
      obtain ⟨n0, hn0⟩ : ∃ n0 : Nat, numV l 0 = n0 := ⟨_, rfl⟩
      have HN0 := Aside0.mk hn0
      rw [hn0]
      clear hn0
      by_cases h6 : n0 ≤ 65536
      · have HX : Aside0 (partsGo l (n0 - 0) 4 [] = partsGo l (numV l 0) 4 []) := ⟨by rw [HN0.out]; rfl⟩
        have HHD : Aside0 (4 ≤ l.length ∧ numV l 0 ≤ 65536) := ⟨⟨h4, by rw [HN0.out]; exact h6⟩⟩
        go_wp2_with fail
        go_loopw [5, 6, 7] (fun a v i wr => ∃ (j k : Nat) (out : List (List UInt8)), j ≤ n0 ∧ i = .int .i64 j ∧ a = .int .i64 k ∧ k ≤ l.length ∧ Aside0 (partsGo l (n0 - j) k out = partsGo l (numV l 0) 4 []) ∧ Aside0 (out.length = j) ∧ Aside0 (Kd.R KB 25 wr w.heap.size (fun b => w.heap.size ≤ b) v (out.map bi)) ∧ Aside0 (Fr No w wr)) (fun _ _ i _ => n0 - (intOf i).toNat)
        case atStart => exact ⟨0, 4, [], by omega, rfl, rfl, h4, HX, ⟨rfl⟩, ⟨Kd.R_nil _ _ _ _ _⟩, HF2⟩
        case round =>
          clear HX HF2
          obtain ⟨j, k, out, hj, rfl, rfl, hk, HX, HOL, HO, HF⟩ := hrel
          by_cases hlt : j < n0
          · go_wp2_with fail
            refine (number_calls l k A c wr (C_fr HR.out HF.out) hl (by omega)).mono ?_
            rintro e w3 ⟨rfl, hf⟩
            have HF3 : Aside0 (Fr No w w3) := ⟨HF.out.then_ hf⟩
            have HO3 : Aside0 (Kd.R KB 25 w3 w.heap.size (fun b => w.heap.size ≤ b) u6 (out.map bi)) := ⟨Kd.R_kept HO.out hf.kept (fun b hb hS => hS)⟩
            have HZ3 : Aside0 (w.heap.size ≤ w3.heap.size) := ⟨HF3.out.size⟩
            clear HF HO hf
            obtain ⟨m, hmv⟩ : ∃ m : Nat, numV l k = m := ⟨_, rfl⟩
            have HMV := Aside0.mk hmv
            have hne : n0 - j = (n0 - (j + 1)) + 1 := by omega
            rw [hne] at HX
            clear hne
            by_cases hk4 : k + 4 ≤ l.length
            · have hn0 : numI l k = (m : Int) := by rw [← hmv]; exact if_pos hk4
              rw [hn0]
              clear hn0
              obtain ⟨q, hq⟩ : ∃ q : Nat, k + 4 = q := ⟨_, rfl⟩
              have hqi : (k : Int) + 4 = (q : Int) := by omega
              have hls : (l.length : Int) - (k : Int) - 4 = (l.length : Int) - (q : Int) := by omega
              have HQ := Aside0.mk hq
              clear hmv
              by_cases hm : q + m ≤ l.length
              · rw [partsGo_step (by rw [HQ.out, HMV.out]; exact hm)] at HX
                rw [HQ.out, HMV.out] at HX
                have HPL : Aside0 ((partAt l k).length = m) := ⟨by rw [partAt_length (by rw [HQ.out, HMV.out]; exact hm)]; exact HMV.out⟩
                clear hls
                go_wp2_with fail
                go_loopw [9, 10] (fun v i wx => ∃ t : Nat, t ≤ m ∧ i = .int .i64 t ∧ Aside0 (Mine wx w3.heap.size v (bi ((partAt l k).take t))) ∧ Aside0 (Fr No w3 wx)) (fun _ i _ => m - (intOf i).toNat)
                case atStart => exact ⟨0, by omega, rfl, ⟨Mine.nil _ _⟩, ⟨Fr.refl _ _⟩⟩
                case round =>
                  obtain ⟨t, ht, rfl, HM, HG⟩ := hrel
                  by_cases htl : t < m
                  · obtain ⟨ad, hA, hcell⟩ := C_byte (C_fr HR.out (HF3.out.then_ HG.out)) (q + t) (by omega)
                    subst hA
                    have HPG := Aside0.mk (partAt_get HQ.out HMV.out hm htl)
                    generalize l[q + t]'(by omega) = bx at hcell HPG
                    obtain ⟨qt, hqt⟩ : ∃ qt : Nat, q + t = qt := ⟨_, rfl⟩
                    have hqti : (q : Int) + (t : Int) = (qt : Int) := by omega
                    rw [hqt] at hcell
                    have hql : qt < l.length := by omega
                    have HT : Aside0 (bi ((partAt l k).take t) ++ [un (b2w bx)] = bi ((partAt l k).take (t + 1))) := ⟨by rw [HPG.out, bi_append, un_b2w]; rfl⟩
                    have HLL : Aside0 ((bi ((partAt l k).take t)).length + 1 ≤ 140737488355328) := ⟨by rw [bi_length, List.length_take]; omega⟩
                    clear hqt
                    go_wp2_with (at_builtin; refine app_byte (w0 := w3) rfl (.tmp 46) (.tmp 54) 25 rfl Try.underlying25 infoU8 u9 (bi ((partAt l k).take t)) (un (b2w bx)) rfl rfl HM.out HG.out HLL.out ?_; intro v1 w1 hm1 hf1 hg1)
                    rw [HT.out] at hm1
                    exact ⟨⟨t + 1, by omega, by go_num, ⟨hm1⟩, ⟨hf1⟩⟩, by simp [intOf]; omega⟩
                  · obtain rfl : t = m := by omega
                    have hall : (partAt l k).take t = partAt l k := List.take_of_length_le (by rw [HPL.out]; exact Nat.le_refl _)
                    rw [hall] at HM
                    clear hall
                    have hm5 := HM.out
                    obtain ⟨A5, c5, he5, _, _⟩ := hm5.reads
                    rw [he5] at HM
                    have HP5 : Aside0 (KB.M wr w.heap.size (fun b => w3.heap.size ≤ b) (bi (partAt l k)) [.slice A5 (partAt l k).length c5]) := ⟨⟨_, rfl, Kd.R_mono (Kd.R_lower (Kd.R_bound HM.out) HZ3.out) (fun b hb => hb.2.1)⟩⟩
                    have HO5 : Aside0 (Kd.R KB 25 wr w.heap.size (fun b => w.heap.size ≤ b) u6 (out.map bi)) := ⟨Kd.R_kept HO3.out HG.out.kept (fun b hb hS => hS)⟩
                    have HZ5 : Aside0 (w.heap.size ≤ wr.heap.size) := ⟨by have := HG.out.size; have := HZ3.out; omega⟩
                    have HF5 : Aside0 (Fr No w wr) := ⟨HF3.out.then_ HG.out⟩
                    have HOK : Aside0 (∀ b, w3.heap.size ≤ b → w.heap.size ≤ b ∧ some b ≠ u6.ownBlock) := ⟨fun b hb => ⟨by have := HZ3.out; omega, fun he => by
                      obtain ⟨_, inner, ho, _⟩ := HO3.out
                      have := own_lt ho b he.symm
                      omega⟩⟩
                    have HLN : Aside0 (((out.map bi).length + 1) * 24 ≤ 140737488355328) := ⟨by rw [List.length_map, HOL.out]; omega⟩
                    have HOB : Aside0 (∀ b, u6.ownBlock = some b → w.heap.size ≤ b) := ⟨fun b hb => HO3.out.1 b hb⟩
                    subst he5
                    clear hm5 HM HG HO3 HF3
                    go_wp2_with (at_builtin; refine Kd.R_append KB (w0 := wr) w.heap.size rfl (.tmp 56) (.tmp 58) 23 25 (.slice none 0 0) 24 rfl Try.underlying23 infoRow rfl (by decide) (by decide) u6 (out.map bi) (bi (partAt l k)) [.slice A5 (partAt l k).length c5] (fun b => w.heap.size ≤ b) (fun b => w3.heap.size ≤ b) rfl rfl HP5.out HOK.out (fun b hb => by have := HZ5.out; omega) HO5.out (Below.refl _ _) HZ5.out HLN.out ?_; intro v6 w6 hr6 hb6 hg6 hat6)
                    have hgr : Fr (fun b => u6.ownBlock = some b) wr w6 := (Fr.refl (fun b => u6.ownBlock = some b) wr).grown hg6 (fun b hb => .inl hb)
                    refine ⟨⟨j + 1, q + t, out ++ [partAt l k], by omega, by go_num, by go_num, hm, HX, ⟨by rw [List.length_append, HOL.out]; rfl⟩, ⟨by rw [List.map_append]; exact hr6⟩, ⟨HF5.out.trans hgr (fun b hb => .inr (HOB.out b hb))⟩⟩, by simp [intOf]; omega⟩
              · have HNO := Aside0.mk (parts_bad hlong (partsX_go HHD.out (by rw [← HX.out]; exact partsGo_stop (by rw [HQ.out, HMV.out]; exact hm))))
                go_wp2_with fail
                go_ret2
                rw [HNO.out.1, HNO.out.2]
                exact ⟨.slice none 0 0, rfl, Kd.R_nil _ _ _ _ _, HF3.out⟩
            · have hn0 : numI l k = -1 := if_neg hk4
              have HNO := Aside0.mk (parts_bad hlong (partsX_go HHD.out (by rw [← HX.out]; exact partsGo_stop (by omega))))
              rw [hn0]
              clear hn0
              go_wp2_with fail
              go_ret2
              rw [HNO.out.1, HNO.out.2]
              exact ⟨.slice none 0 0, rfl, Kd.R_nil _ _ _ _ _, HF3.out⟩
          · obtain rfl : j = n0 := by omega
            rw [Nat.sub_self] at HX
            have HXE : Aside0 (partsX l = if k = l.length then some out else none) := ⟨partsX_end HHD.out HX.out.symm⟩
            clear HX
            by_cases hke : k = l.length
            · have HNO := Aside0.mk (parts_good (out := out) hlong (by rw [HXE.out, if_pos hke]))
              have hbe : ((k : Int) == (l.length : Int)) = true := by rw [hke]; exact beq_self_eq_true _
              clear hke HXE
              go_wp2_with fail
              go_ret2
              rw [HNO.out.1, HNO.out.2]
              exact ⟨_, rfl, HO.out, HF.out⟩
            · have HNO := Aside0.mk (parts_bad hlong (by rw [HXE.out, if_neg hke]))
              have hbe : ((k : Int) == (l.length : Int)) = false := beq_eq_false_iff_ne.2 (by omega)
              go_wp2_with fail
              go_ret2
              rw [HNO.out.1, HNO.out.2]
              exact ⟨.slice none 0 0, rfl, Kd.R_nil _ _ _ _ _, HF.out⟩
      · have HNO := Aside0.mk (parts_bad hlong (partsX_head (l := l) (by rw [HN0.out]; omega)))
        go_wp2_with fail
        go_ret2
        rw [HNO.out.1, HNO.out.2]
        exact ⟨.slice none 0 0, rfl, Kd.R_nil _ _ _ _ _, HF2.out⟩
    · have hn0 : numI l 0 = -1 := if_neg (by omega)
      have HNO := Aside0.mk (parts_bad hlong (partsX_head (l := l) (by omega)))
      rw [hn0]
      clear hn0
      go_wp2_with fail
      go_ret2
      rw [HNO.out.1, HNO.out.2]
      exact ⟨.slice none 0 0, rfl, Kd.R_nil _ _ _ _ _, HF2.out⟩
end Go.Proofs.Ytbaeddppihjgfaa.Sg
