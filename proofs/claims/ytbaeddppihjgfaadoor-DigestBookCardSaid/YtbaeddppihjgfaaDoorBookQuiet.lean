/- The walk of quiet (the law DigestBook). -/
import Derived.StillTailTactics
import Derived.BigQuiet
import Derived.Deep.RegionHeld3
import Derived.Deep.RegionLaw
import Derived.Test.YtbaeddppihjgfaaDoorMgLst
import Derived.Test.YtbaeddppihjgfaaDoorMgQuiet
namespace Go.Proofs.YtbaeddppihjgfaaDoor.Sg
open Go Go.RowKit Go.Proofs.YtbaeddppihjgfaaDoorW.PrintWords
set_option linter.unusedVariables false
theorem frame_small {ls : LL} (h : frameOk ls = true) : ∀ l ∈ ls, l.length ≤ 67108864 := fun l hl => by
  have h1 := frameL_small h
  have h2 : l.length ≤ frameN ls := by
    clear h h1
    induction ls with
    | nil => cases hl
    | cons x xs ih =>
      show l.length ≤ 4 + x.length + frameN xs
      rcases List.mem_cons.1 hl with rfl | hl
      · omega
      · have := ih hl; omega
  rw [frameL_length] at h1
  omega
theorem frameL_pos (ls : LL) : 0 < (frameL ls).length := by
  unfold frameL
  rw [List.length_append, le4_length]
  omega
theorem Kd.R_readsC {α : Type} {enc : α → Value} {h1 : ∀ x, (enc x).oneCell' = true} {e : Nat} {w : World} {B : Nat} {A : Option Addr} {n c : Nat} {xs : List α} (h : (Kd.scalar enc h1).R e w B (fun _ => True) (.slice A n c) xs) : (Kd.scalar enc h1).C w A xs.length xs := by
  obtain ⟨A2, c2, hv, -, hr⟩ := Kd.R_reads h
  injection hv with e1 e2 e3
  subst e1
  exact hr
theorem domB_small (S : List UInt8) (ls : LL) : (domB S ls).length ≤ 67108864 := by
  unfold domB
  split
  · rw [sha_length]; decide
  · decide
set_option maxRecDepth 100000 in
set_option maxHeartbeats 20000000 in
theorem quiet_calls (w : World) (ps : LL) (n : Nat) (hnp : ps.length = n) (A : Option Addr) (c : Nat) (hr : Rbs w A ps) (hc : n ≤ c) (hn : n ≤ 200) (hok : ∀ i, i ≤ n → frameOk (ps.take i) = true) (hT : Tabs w) :
    Calls Tryd.prog 54 #[.slice A n c] w fun e w' => e = .returned (.bool true) ∧ Fr No w w' := by
  have HR := Aside0.mk hr; have HOK := Aside0.mk hok; have HT := Aside0.mk hT; have HNP := Aside0.mk hnp
  have HQ0 : Aside0 (∃ es ls, QuI w w (.slice none 0 0) (.slice none 0 0) es ls ∧ ls.length ≤ 60 * 0) := ⟨[], [], ⟨⟨rfl, Kd.R_nil _ _ _ _ _, ⟨fun j hj => absurd hj (by simp), fun i j hi => absurd hi (by simp)⟩⟩, Kd.R_nil _ _ _ _ _, Fr.refl _ _, fun x hx => by cases hx⟩, by simp⟩
  have hci : (n : Int) ≤ (c : Int) := by omega
  clear hr hok hT hnp
  go_enter Tryd.func54, Tryd.ntmps54
  go_upto_block 0 with fail
  go_cut [3, 4] (fun v3 v4 wx => Aside0 (∃ es ls, QuI w wx v3 v4 es ls ∧ ls.length ≤ 500))
  case first => as_aux_lemma =>
    go_wp2_with fail
    go_loopw [3, 4, 5] (fun v3 v4 i wr => ∃ x : Nat, x ≤ n + 1 ∧ x ≤ 8 ∧ i = .int .i64 x ∧ Aside0 (∃ es ls, QuI w wr v3 v4 es ls ∧ ls.length ≤ 60 * x)) (fun _ _ i _ => 8 - (intOf i).toNat)
    case atStart => exact ⟨0, by omega, by omega, rfl, HQ0⟩
    case round => as_aux_lemma =>
      clear HQ0
      obtain ⟨x, hx, hx8, rfl, HQ⟩ := hrel
      by_cases hlt : x ≤ n ∧ x < 8
      · have hxn : (x : Int) ≤ (n : Int) := by omega
        have hxc : (x : Int) ≤ (c : Int) := by omega
        have hx8i : (x : Int) < 8 := by omega
        have hx0 : (0 : Int) ≤ (x : Int) := by omega
        obtain ⟨es0, ls0, hQ, hll⟩ := HQ.out
        have HLL := Aside0.mk hll
        have HQI := Aside0.mk hQ
        have HQL : Aside0 ((ps.take x).length = x) := ⟨by rw [List.length_take, HNP.out]; omega⟩
        have HRQ : Aside0 (∀ W, Fr No w W → Rbs W A (ps.take x)) := ⟨fun W hg => Rbs_take (HR.out.fr hg) x (by rw [HNP.out]; omega)⟩
        have HQO : Aside0 (frameOk (ps.take x) = true) := ⟨HOK.out x hlt.1⟩
        have HQS : Aside0 (∀ l ∈ ps.take x, l.length ≤ 140737488351232) := ⟨fun l hl => Nat.le_trans (frame_small HQO.out l hl) (by decide)⟩
        have HQ6 := Aside0.mk (frame_small HQO.out)
        have HPF := Aside0.mk (parts_of_frame (ps.take x) HQO.out)
        have HFL := Aside0.mk (frameL_small HQO.out)
        have HFP : Aside0 (0 < (frameL (ps.take x)).length) := ⟨frameL_pos _⟩
        have HF0 := Aside0.mk hQ.fr
        clear hQ hll HQ
        generalize ps.take x = q at *
        go_wp2_with fail
        have HS : Aside0 (∀ W, Fr No wr W → ∃ es ls, QuI w W u3 u4 es ls ∧ ls.length ≤ 60 * x) := ⟨fun W hf => ⟨es0, ls0, HQI.out.frN hf, HLL.out⟩⟩
        clear HQI HLL HQ6
        refine (refFrameQ_calls q x HQL.out A c _ (HRQ.out _ HF0.out) (by omega) (by omega) HQS.out HQO.out).mono ?_
        rintro e w1 ⟨vf, rfl, hm, hf⟩
        have HMF := Aside0.mk hm; have HF1 := Aside0.mk hf; have HT1 : Aside0 (Fr No w w1) := ⟨HF0.out.then_ hf⟩
        clear hm hf
        go_wp2_with fail
        refine (refDomainQ_calls q x HQL.out A c _ (HRQ.out _ HT1.out) (by omega) (by omega) HQS.out (HT.out.s _ HT1.out)).mono ?_
        rintro e w2 ⟨vd, rfl, hm, hf⟩
        have HMD := Aside0.mk hm; have HF2 := Aside0.mk hf; have HT2 : Aside0 (Fr No w w2) := ⟨HT1.out.then_ hf⟩
        clear hm hf
        generalize frameE ([120] :: q) = dE at *
        go_wp2_with fail
        refine (refRootQ_calls q x HQL.out A c _ (HRQ.out _ HT2.out) (by omega) (by omega) HQS.out (HT.out.s _ HT2.out)).mono ?_
        rintro e w3 ⟨vr, rfl, hm, hf⟩
        have HS0 : Aside0 (QuS w w3 u3 u4 (60 * x) vf vd vr (frameL q) (domB [120] q) (treeL q)) := ⟨⟨HS.out _ ((HF1.out.then_ HF2.out).then_ hf), ⟨_, (HMF.out.fr HF2.out (fun _ _ => id)).fr hf (fun _ _ => id)⟩, ⟨_, HMD.out.fr hf (fun _ _ => id)⟩, ⟨_, hm⟩⟩⟩
        clear hm hf HMF HMD HF1 HF2 HT1 HT2 HS
        go_wp2_with fail
        have hT0 := HS0.out.fr
        have HT0 := Aside0.mk hT0
        clear hT0
        refine (frameQ_calls q x HQL.out A c _ (HRQ.out _ HT0.out) (by omega) (by omega) HQS.out HQO.out).mono ?_
        rintro e w4 ⟨va, rfl, hm, hf⟩
        have HMA := Aside0.mk hm; have HFA := Aside0.mk hf; have HT1 : Aside0 (Fr No w w4) := ⟨HT0.out.then_ hf⟩
        clear hm hf
        go_wp2_with fail
        refine (frameQ_calls q x HQL.out A c _ (HRQ.out _ HT1.out) (by omega) (by omega) HQS.out HQO.out).mono ?_
        rintro e w5 ⟨vb, rfl, hm, hf⟩
        have HMB := Aside0.mk hm; have HFB := Aside0.mk hf
        clear hm hf
        go_wp2_with fail
        refine (HS0.out.pair_calls (by omega) HFL.out HFA.out HMA.out HFB.out HMB.out (Fr.refl No _) (HS0.out.frN (HFA.out.then_ HFB.out)).mf).mono ?_
        rintro e w6 ⟨a6, b6, rfl, hS⟩
        have HS6 := Aside0.mk hS
        clear hS HMA HFA HMB HFB HT0 HT1 HS0
        go_wp2_with fail
        have hT0 := HS6.out.fr
        have HT0 := Aside0.mk hT0
        clear hT0
        refine (domainQ_calls q x HQL.out A c _ (HRQ.out _ HT0.out) (by omega) (by omega) HQS.out (HT.out.k _ HT0.out) (HT.out.f _ HT0.out)).mono ?_
        rintro e w7 ⟨va, rfl, hm, hf⟩
        have HMA := Aside0.mk hm; have HFA := Aside0.mk hf; have HT1 : Aside0 (Fr No w w7) := ⟨HT0.out.then_ hf⟩
        clear hm hf
        go_wp2_with fail
        refine (domainQ_calls q x HQL.out A c _ (HRQ.out _ HT1.out) (by omega) (by omega) HQS.out (HT.out.k _ HT1.out) (HT.out.f _ HT1.out)).mono ?_
        rintro e w8 ⟨vb, rfl, hm, hf⟩
        have HMB := Aside0.mk hm; have HFB := Aside0.mk hf
        clear hm hf
        go_wp2_with fail
        refine (HS6.out.pair_calls (by omega) (domB_small _ _) HFA.out HMA.out HFB.out HMB.out (Fr.refl No _) (HS6.out.frN (HFA.out.then_ HFB.out)).md).mono ?_
        rintro e w9 ⟨a9, b9, rfl, hS⟩
        have HS9 := Aside0.mk hS
        clear hS HMA HFA HMB HFB HT0 HT1 HS6
        go_wp2_with fail
        have hT0 := HS9.out.fr
        have HT0 := Aside0.mk hT0
        clear hT0
        refine (rootQ_calls q x HQL.out A c _ (HRQ.out _ HT0.out) (by omega) (by omega) HQS.out (HT.out.k _ HT0.out) (HT.out.f _ HT0.out)).mono ?_
        rintro e w10 ⟨va, rfl, hm, hf⟩
        have HMA := Aside0.mk hm; have HFA := Aside0.mk hf; have HT1 : Aside0 (Fr No w w10) := ⟨HT0.out.then_ hf⟩
        clear hm hf
        go_wp2_with fail
        refine (rootQ_calls q x HQL.out A c _ (HRQ.out _ HT1.out) (by omega) (by omega) HQS.out (HT.out.k _ HT1.out) (HT.out.f _ HT1.out)).mono ?_
        rintro e w11 ⟨vb, rfl, hm, hf⟩
        have HMB := Aside0.mk hm; have HFB := Aside0.mk hf
        clear hm hf
        go_wp2_with fail
        refine (HS9.out.pair_calls (by omega) (by rw [tree_length]; decide) HFA.out HMA.out HFB.out HMB.out (Fr.refl No _) (HS9.out.frN (HFA.out.then_ HFB.out)).mr).mono ?_
        rintro e w12 ⟨a12, b12, rfl, hS⟩
        have HS12 := Aside0.mk hS
        clear hS HMA HFA HMB HFB HT0 HT1 HS9
        go_wp2_with fail
        refine (HS12.out.sum_calls HFL.out HT.out).mono ?_
        rintro e w13 ⟨va, rfl, hm, hf⟩
        have HMA := Aside0.mk hm; have HFA := Aside0.mk hf
        have HSA := Aside0.mk (HS12.out.frN hf)
        clear hm hf
        go_wp2_with fail
        refine (HSA.out.sum_calls HFL.out HT.out).mono ?_
        rintro e w14 ⟨vb, rfl, hm, hf⟩
        have HMB := Aside0.mk hm; have HFB := Aside0.mk hf
        have HSB := Aside0.mk (HSA.out.frN hf)
        clear hm hf
        go_wp2_with fail
        refine (HSB.out.refSum_calls HFL.out HT.out).mono ?_
        rintro e w15 ⟨vi, rfl, hm, hf⟩
        have HMI := Aside0.mk hm; have HFI := Aside0.mk hf
        clear hm hf
        go_wp2_with fail
        refine (HS12.out.pair_calls (by omega) (by rw [sha_length]; decide) HFA.out HMA.out HFB.out HMB.out HFI.out ⟨_, HMI.out⟩).mono ?_
        rintro e w16 ⟨a16, b16, rfl, hS⟩
        have HS16 := Aside0.mk hS
        clear hS HMA HFA HMB HFB HMI HFI HSA HSB HS12
        go_wp2_with fail
        refine (unhexQ_calls w16).mono ?_
        rintro e w17 ⟨va, rfl, hm, hf⟩
        have HMA := Aside0.mk hm; have HFA := Aside0.mk hf
        clear hm hf
        go_wp2_with fail
        refine (unhexQ_calls w17).mono ?_
        rintro e w18 ⟨vb, rfl, hm, hf⟩
        have HMB := Aside0.mk hm; have HFB := Aside0.mk hf
        clear hm hf
        have HMI : Aside0 (Mine (w18.alloc (.cells #[.int .u8 0, .int .u8 255, .int .u8 23, .int .u8 0] 5)) w18.heap.size (.slice (some ⟨w18.heap.size, 0, none⟩) 4 4) (bi [0, 255, 23, 0])) := ⟨mine_lit4 w18 0 255 23 0⟩
        go_wp2_with fail
        refine (HS16.out.pair_calls (by omega) (by decide) HFA.out HMA.out HFB.out HMB.out ((Fr.refl No w18).alloc _) ⟨_, HMI.out⟩).mono ?_
        rintro e w20 ⟨a20, b20, rfl, hS⟩
        have HS20 := Aside0.mk hS
        clear hS HMA HFA HMB HFB HMI HS16
        go_wp2_with fail
        refine (HS20.out.parts_calls HFL.out HPF.out).mono ?_
        rintro e w21 ⟨vc, ec, rfl, hm, hf⟩
        have HMC := Aside0.mk hm; have HFC := Aside0.mk hf; have HS21 := Aside0.mk (HS20.out.frN hf)
        clear hm hf
        go_wp2_with fail
        refine (HS21.out.parts_calls HFL.out HPF.out).mono ?_
        rintro e w22 ⟨vd2, ed, rfl, hm, hf⟩
        have HPR : Aside0 (∃ es ls, PairI w w22 a20 b20 es ls w20.heap.size w21.heap.size vc vd2 ec ed q 0 ∧ ls.length ≤ 60 * x + 10 + 2 * 0) := ⟨by
          obtain ⟨es, ls, hq, hn⟩ := HS20.out.q
          exact ⟨es, ls, PairI.start hq HFC.out HMC.out hf hm, hn⟩⟩
        have HMR : Aside0 (∃ B, Mine w22 B vr (bi (treeL q))) := ⟨(HS21.out.frN hf).mr⟩
        have HCC : Aside0 (∃ Ac cc, vc = .slice Ac x cc) := ⟨by obtain ⟨Ac, cc, h1, -, -⟩ := HMC.out.rbs; rw [HQL.out] at h1; exact ⟨Ac, cc, h1⟩⟩
        have HDD : Aside0 (∃ Ac cc, vd2 = .slice Ac x cc) := ⟨by obtain ⟨Ac, cc, h1, -, -⟩ := hm.rbs; rw [HQL.out] at h1; exact ⟨Ac, cc, h1⟩⟩
        have HFV : Aside0 (∃ Df nf cf, vf = .slice Df nf cf ∧ 0 < nf) := ⟨by obtain ⟨B, m⟩ := HS21.out.mf; obtain ⟨Df, cf, h1, -, -⟩ := m.reads; exact ⟨Df, _, cf, h1, HFP.out⟩⟩
        obtain ⟨Ac, cc, hvc⟩ := HCC.out
        obtain ⟨Ad, cd, hvd⟩ := HDD.out
        obtain ⟨Df, nf, cf, hvf, hnf⟩ := HFV.out
        subst hvc hvd hvf
        have hnfi : (0 : Int) < (nf : Int) := by omega
        clear hm hf HS20 HS21 HFC HMC HCC HDD HFV hnf
        go_wp2_with fail
        go_loopw [3, 4, 21] (fun y3 y4 i wr2 => ∃ k : Nat, k ≤ x ∧ i = .int .i64 k ∧ Aside0 (∃ es ls, PairI w wr2 y3 y4 es ls w20.heap.size w21.heap.size (.slice Ac x cc) (.slice Ad x cd) ec ed q k ∧ ls.length ≤ 60 * x + 10 + 2 * k) ∧ Aside0 (∃ B, Mine wr2 B vr (bi (treeL q)))) (fun _ _ i _ => x - (intOf i).toNat)
        case atStart => exact ⟨0, by omega, rfl, HPR, HMR⟩
        case round => as_aux_lemma =>
          clear HPR HMR
          rename World => wr2
          obtain ⟨k, hk, rfl, HP, HMR⟩ := hrel
          obtain ⟨es1, ls1, hP, hl1⟩ := HP.out
          have HL1 := Aside0.mk hl1
          have HPI := Aside0.mk hP
          clear hl1 HP
          by_cases hkx : k < x
          · have hki : (k : Int) < (x : Int) := by omega
            have hkn : (k : Int) < (n : Int) := by omega
            obtain ⟨adc, hAc, hcc⟩ := hP.c.at_ k (by rw [HQL.out]; exact hkx)
            obtain ⟨add, hAd, hcd⟩ := hP.d.at_ k (by rw [HQL.out]; exact hkx)
            obtain ⟨adp, Ap, cp, hAp, hcp0, hcpl, hrp⟩ := (HRQ.out w (Fr.refl _ _)).at_ k (by rw [HQL.out]; exact hkx)
            have hcp := hP.q.fr.cell hcp0 id
            subst hAc hAd hAp
            have HRL : Aside0 (rowL q k = q[k]'(by rw [HQL.out]; exact hkx)) := ⟨rowL_at q k _⟩
            rw [← HRL.out] at hcp hrp
            rw [← HRL.out] at hcp0
            have HSM : Aside0 ((rowL q k).length ≤ 67108864) := ⟨by rw [HRL.out]; exact frame_small HQO.out _ (List.getElem_mem _)⟩
            have HRP := Aside0.mk hrp
            obtain ⟨np, hnp⟩ : ∃ np, (rowL q k).length = np := ⟨_, rfl⟩
            have HNPP := Aside0.mk hnp
            rw [hnp] at hcp hcp0
            have HCPW := Aside0.mk hcp0
            clear hP hcp0 hcpl hrp hnp
            go_wp2_with fail
            have HCP0 := Aside0.mk hcp
            go_region_held3 (fun w' => w'.cell? (adc.add k) = some (rowV ec k) ∧ w'.cell? (add.add k) = some (rowV ed k) ∧ w'.cell? (adp.add k) = some (.slice Ap np cp)) (go_keep)
              ((go_at_call 76; refine ((HPI.out.frN (Fr.refl No wr2).drew).stepF_calls (by have := HL1.out; omega) (by rw [HQL.out]; exact hkx) HSM.out HNPP.out HRP.out (by obtain ⟨B, m⟩ := HMR.out; exact ⟨B, m.fr (Fr.refl No wr2).drew (fun _ _ => id)⟩)).mono ?_
                rintro e w5 ⟨y1, y2, es2, rfl, hP2, hm2⟩
                have HP2 : Aside0 (∃ es ls, PairI w w5 y1 y2 es ls w20.heap.size w21.heap.size (.slice (some adc) x cc) (.slice (some add) x cd) ec ed q (k + 1) ∧ ls.length ≤ 60 * x + 10 + 2 * (k + 1)) := ⟨_, _, hP2, by have := HL1.out; simp; omega⟩
                have HMR2 := Aside0.mk hm2
                have k1 := hP2.c.cellN k (by rw [HQL.out]; exact hkx)
                have k2 := hP2.d.cellN k (by rw [HQL.out]; exact hkx)
                have k3 := hP2.q.fr.cell HCPW.out id
                clear hP2 hm2))
            clear HPI HMR
            go_wp2_with fail
            exact ⟨⟨k + 1, by omega, by go_num, HP2, HMR2⟩, by simp [intOf]; omega⟩
          · obtain rfl : x = k := by omega
            have HQI2 := Aside0.mk hP.q
            clear hP HPI
            by_cases hxz : x = 0
            · have hb1 : ((x : Int) == 0) = true := by simp [hxz]
              have hb2 : decide ((x : Int) = 0) = true := by simp [hxz]
              have HQN : Aside0 (∃ es ls, QuI w wr2 u3 u4 es ls ∧ ls.length ≤ 60 * (x + 1)) := ⟨es1, ls1, HQI2.out, by have := HL1.out; omega⟩
              clear hxz HQI2 HMR
              go_wp2_with fail
              exact ⟨⟨x + 1, by omega, by omega, by go_num, HQN⟩, by simp [intOf]; omega⟩
            · have hb1 : ((x : Int) == 0) = false := by simp; omega
              have hb2 : decide ((x : Int) = 0) = false := by simp; omega
              have hx1 : (1 : Int) ≤ (x : Int) := by omega
              have hx1b : (0 : Int) ≤ (x : Int) - 1 := by omega
              have HXA : Aside0 ((x : Int) - 1 = ((x - 1 : Nat) : Int)) := ⟨by omega⟩
              have HX1 : Aside0 (x - 1 < x) := ⟨by omega⟩
              clear hxz
              have HTF := Aside0.mk HQI2.out.fr
              go_wp2_with fail
              refine (refProveQ_calls q x HQL.out _ c _ (HRQ.out _ HTF.out) (by omega) (by omega) HQS.out (x - 1) HX1.out _ HXA.out (HT.out.s _ HTF.out)).mono ?_
              rintro e w5 ⟨vw, rfl, hm, hf⟩
              obtain ⟨ew, hw⟩ := hm.lst
              have HWL := Aside0.mk hw; have HF5 := Aside0.mk hf; have HT5 : Aside0 (Fr No w w5) := ⟨HTF.out.then_ hf⟩
              clear hm hf hw
              go_wp2_with fail
              refine (proveQ_calls q x HQL.out _ c _ (HRQ.out _ HT5.out) (by omega) (by omega) HQS.out (x - 1) HX1.out _ HXA.out (HT.out.k _ HT5.out) (HT.out.f _ HT5.out)).mono ?_
              rintro e w6 ⟨vc, rfl, hm, hf⟩
              obtain ⟨ec2, hw⟩ := hm.lst
              have HCL := Aside0.mk hw; have HF6 := Aside0.mk hf; have HT6 : Aside0 (Fr No w w6) := ⟨HT5.out.then_ hf⟩
              clear hm hf hw
              go_wp2_with fail
              refine (proveQ_calls q x HQL.out _ c _ (HRQ.out _ HT6.out) (by omega) (by omega) HQS.out (x - 1) HX1.out _ HXA.out (HT.out.k _ HT6.out) (HT.out.f _ HT6.out)).mono ?_
              rintro e w7 ⟨vd2, rfl, hm, hf⟩
              obtain ⟨ed2, hw⟩ := hm.lst
              have HDL := Aside0.mk hw; have HF7 := Aside0.mk hf
              have HNW : Aside0 (NeRow vw u3) := ⟨fun b h1 h2 => by
                have := (HWL.out.base (.inl h1)).1
                have := (HQI2.out.l.base (.inl h2)).2
                omega⟩
              have HQ5 := Aside0.mk (HQI2.out.frN HF5.out)
              have HPR : Aside0 (∃ es ls, PairI w w7 u3 u4 es ls w5.heap.size w6.heap.size vc vd2 ec2 ed2 (wayL q (x - 1)) 0 ∧ ls.length ≤ 60 * x + 24 + 2 * 0) := ⟨es1, ls1, PairI.start HQ5.out HF6.out HCL.out hf hw, by have := HL1.out; omega⟩
              have HWI : Aside0 (LstV w7 wr2.heap.size vw ew (wayL q (x - 1)) ∧ NeRow vw u3) := ⟨(HWL.out.fr HF6.out (fun _ _ => id)).fr hf (fun _ _ => id), HNW.out⟩
              have HMR7 : Aside0 (∃ B, Mine w7 B vr (bi (treeL q))) := ⟨by obtain ⟨B, m⟩ := HMR.out; exact ⟨B, ((m.fr HF5.out (fun _ _ => id)).fr HF6.out (fun _ _ => id)).fr hf (fun _ _ => id)⟩⟩
              have HW32 := Aside0.mk (way_32q q (x - 1))
              have HWN : Aside0 ((wayL q (x - 1)).length ≤ 7) := ⟨by rw [way_length, HQL.out]; have := steps_lt x (x - 1) (by omega); omega⟩
              have HRBC : Aside0 (∀ (W : World) (vw : Value) (ew : List Slc) (B : Nat) (D : Option Addr) (nl cl : Nat) (leaf : List UInt8), LstV W B vw ew (wayL q (x - 1)) → leaf = q[x - 1]'(by rw [HQL.out]; exact HX1.out) → Rb W D leaf → leaf.length = nl → nl ≤ cl → nl ≤ 140737488351232 → Fr No w W →
                  Calls Tryd.prog 38 #[.slice D nl cl, .int .i64 ((x : Int) - 1), .int .i64 (x : Int), vw] W fun e w' => ∃ v, e = .returned (.tuple #[v, .int .i64 0]) ∧ Mine w' W.heap.size v (bi (treeL q)) ∧ Fr No W w') := ⟨fun W vw ew B D nl cl leaf h1 h2 h3 h4 h5 h6 h7 => rebuildQ_calls q x (x - 1) HQL.out HX1.out (by omega) h1 h2 h3 h4 h5 h6 _ HXA.out (HT.out.k _ h7) (HT.out.f _ h7)⟩
              generalize wayL q (x - 1) = L at *
              obtain ⟨nL, hnL⟩ : ∃ nL, L.length = nL := ⟨_, rfl⟩
              have HNL := Aside0.mk hnL
              have hnL7 : nL ≤ 7 := by rw [← hnL]; exact HWN.out
              obtain ⟨Aw, cw, hvw, -, -⟩ := HWI.out.1.rbs
              obtain ⟨Ac2, cc2, hvc, -, -⟩ := HCL.out.rbs
              obtain ⟨Ad2, cd2, hvd, -, -⟩ := hw.rbs
              rw [hnL] at hvw hvc hvd
              subst hvw hvc hvd
              clear hm hf hw hnL HWL HCL HDL HF5 HF6 HF7 HNW HQ5 HQI2 HMR HT5 HT6 HTF HL1
              go_wp2_with fail
              go_loopw [3, 4, 24] (fun y3 y4 i wr3 => ∃ k : Nat, k ≤ nL ∧ i = .int .i64 k ∧ Aside0 (∃ es ls, PairI w wr3 y3 y4 es ls w5.heap.size w6.heap.size (.slice Ac2 nL cc2) (.slice Ad2 nL cd2) ec2 ed2 L k ∧ ls.length ≤ 60 * x + 24 + 2 * k) ∧ Aside0 (LstV wr3 wr2.heap.size (.slice Aw nL cw) ew L ∧ NeRow (.slice Aw nL cw) y3) ∧ Aside0 (∃ B, Mine wr3 B vr (bi (treeL q)))) (fun _ _ i _ => nL - (intOf i).toNat)
              case atStart => exact ⟨0, by omega, rfl, HPR, HWI, HMR7⟩
              case round => as_aux_lemma =>
                clear HPR HWI HMR7
                rename World => wr3
                obtain ⟨k, hk, rfl, HP, HWI, HMR⟩ := hrel
                obtain ⟨es3, ls3, hP, hl3⟩ := HP.out
                have HL3 := Aside0.mk hl3
                have HPI := Aside0.mk hP
                clear hl3 HP
                by_cases hkx : k < nL
                · have hki : (k : Int) < (nL : Int) := by omega
                  obtain ⟨adc2, hAc, hcc⟩ := hP.c.at_ k (by rw [HNL.out]; exact hkx)
                  obtain ⟨add2, hAd, hcd⟩ := hP.d.at_ k (by rw [HNL.out]; exact hkx)
                  obtain ⟨adw, hAw, hcw⟩ := HWI.out.1.at_ k (by rw [HNL.out]; exact hkx)
                  subst hAc hAd hAw
                  have HSM : Aside0 ((rowL L k).length ≤ 67108864) := ⟨by rw [rowL_at L k (by rw [HNL.out]; exact hkx), HW32.out _ (List.getElem_mem _)]; decide⟩
                  clear hP
                  go_wp2_with fail
                  go_region_held3 (fun w' => w'.cell? (adc2.add k) = some (rowV ec2 k) ∧ w'.cell? (add2.add k) = some (rowV ed2 k) ∧ w'.cell? (adw.add k) = some (rowV ew k)) (go_keep)
                    ((go_at_call 76; refine ((HPI.out.frN (Fr.refl No wr3).drew).stepV_calls (by have := HL3.out; omega) (by rw [HNL.out]; exact hkx) HSM.out ⟨HWI.out.1.fr (Fr.refl No wr3).drew (fun _ _ => id), HWI.out.2⟩ (by obtain ⟨B, m⟩ := HMR.out; exact ⟨B, m.fr (Fr.refl No wr3).drew (fun _ _ => id)⟩)).mono ?_
                      rintro e w9 ⟨y1, y2, es4, rfl, hP2, hw2, hm2⟩
                      have HP2 : Aside0 (∃ es ls, PairI w w9 y1 y2 es ls w5.heap.size w6.heap.size (.slice (some adc2) nL cc2) (.slice (some add2) nL cd2) ec2 ed2 L (k + 1) ∧ ls.length ≤ 60 * x + 24 + 2 * (k + 1)) := ⟨_, _, hP2, by have := HL3.out; simp; omega⟩
                      have HMR2 := Aside0.mk hm2; have HWI2 := Aside0.mk hw2
                      have k1 := hP2.c.cellN k (by rw [HNL.out]; exact hkx)
                      have k2 := hP2.d.cellN k (by rw [HNL.out]; exact hkx)
                      have k3 := hw2.1.cellN k (by rw [HNL.out]; exact hkx)
                      clear hP2 hm2 hw2))
                  clear HPI HMR HWI
                  go_wp2_with fail
                  exact ⟨⟨k + 1, by omega, by go_num, HP2, HWI2, HMR2⟩, by simp [intOf]; omega⟩
                · obtain rfl : nL = k := by omega
                  have HQ9 : Aside0 (QuS w wr3 u3 u4 (60 * x + 40) vr vr vr (treeL q) (treeL q) (treeL q)) := ⟨⟨es3, ls3, hP.q, by have := HL3.out; omega⟩, HMR.out, HMR.out, HMR.out⟩
                  have HT9 := Aside0.mk hP.q.fr
                  obtain ⟨adp, Ap, cp, hAp, hcp0, hcpl, hrp⟩ := (HRQ.out w (Fr.refl _ _)).at_ (x - 1) (by rw [HQL.out]; exact HX1.out)
                  have hcp := HT9.out.cell hcp0 id
                  subst hAp
                  have HSM : Aside0 ((q[x - 1]'(by rw [HQL.out]; exact HX1.out)).length ≤ 67108864) := ⟨frame_small HQO.out _ (List.getElem_mem _)⟩
                  have HRP := Aside0.mk hrp; have HCPL := Aside0.mk hcpl
                  have HQE : Aside0 (∀ leaf, leaf = q[x - 1]'(by rw [HQL.out]; exact HX1.out) → leaf.length ≤ 67108864) := ⟨fun leaf h => by rw [h]; exact HSM.out⟩
                  obtain ⟨leaf, hleaf⟩ : ∃ leaf, leaf = q[x - 1]'(by rw [HQL.out]; exact HX1.out) := ⟨_, rfl⟩
                  have HLF := Aside0.mk hleaf
                  rw [← HLF.out] at hcp HRP HCPL
                  obtain ⟨np, hnp⟩ : ∃ np, leaf.length = np := ⟨_, rfl⟩
                  have HNPP := Aside0.mk hnp
                  rw [hnp] at hcp HCPL
                  have hxt : ((x : Int) - 1).toNat = x - 1 := by omega
                  have hxl : (x : Int) - 1 < (x : Int) := by omega
                  clear hP hcp0 hcpl hrp hnp hleaf HPI HMR
                  go_wp2_with fail
                  refine (HRBC.out wr3 _ _ _ _ np cp leaf HWI.out.1 HLF.out (C_fr HRP.out HT9.out) HNPP.out HCPL.out (by rw [← HNPP.out]; exact Nat.le_trans (HQE.out _ HLF.out) (by decide)) HT9.out).mono ?_
                  rintro e w9 ⟨va, rfl, hm, hf⟩
                  have HMA := Aside0.mk hm; have HFA := Aside0.mk hf; have HTA : Aside0 (Fr No w w9) := ⟨HT9.out.then_ hf⟩
                  have hcp2 := hf.cell hcp id
                  clear hm hf
                  go_wp2_with fail
                  refine (HRBC.out w9 _ _ _ _ np cp leaf (HWI.out.1.fr HFA.out (fun _ _ => id)) HLF.out (C_fr HRP.out HTA.out) HNPP.out HCPL.out (by rw [← HNPP.out]; exact Nat.le_trans (HQE.out _ HLF.out) (by decide)) HTA.out).mono ?_
                  rintro e w10 ⟨vb, rfl, hm, hf⟩
                  have HMB := Aside0.mk hm; have HFB := Aside0.mk hf
                  clear hm hf hcp hcp2
                  go_wp2_with fail
                  refine (HQ9.out.pair_calls (by omega) (by rw [tree_length]; decide) HFA.out HMA.out HFB.out HMB.out (Fr.refl No _) (HQ9.out.frN (HFA.out.then_ HFB.out)).mr).mono ?_
                  rintro e w11 ⟨y1, y2, rfl, hS⟩
                  have HQN : Aside0 (∃ es ls, QuI w w11 y1 y2 es ls ∧ ls.length ≤ 60 * (x + 1)) := ⟨by obtain ⟨es, ls, h1, h2⟩ := hS.q; exact ⟨es, ls, h1, by omega⟩⟩
                  clear hS HQ9 HMA HFA HMB HFB HTA HT9
                  go_wp2_with fail
                  exact ⟨⟨x + 1, by omega, by omega, by go_num, HQN⟩, by simp [intOf]; omega⟩
      · obtain ⟨esF, lsF, hQ, hll⟩ := HQ.out
        have HN : Aside0 (∃ es ls, QuI w wr u3 u4 es ls ∧ ls.length ≤ 500) := ⟨esF, lsF, hQ, by omega⟩
        have hx0 : (0 : Int) ≤ (x : Int) := by omega
        clear hQ hll HQ
        by_cases hxn : x ≤ n
        · have h1 : (x : Int) ≤ (n : Int) := by omega
          have h2 : ¬ (x : Int) < 8 := by omega
          clear hlt
          go_wp2_with fail
          go_meet
          exact HN
        · have h1 : ¬ (x : Int) ≤ (n : Int) := by omega
          clear hlt
          go_wp2_with fail
          go_meet
          exact HN
  case rest => as_aux_lemma =>
    obtain ⟨esF, lsF, hQ, hll⟩ := hcut.out
    obtain ⟨wq, rfl⟩ : ∃ wq : World, wq = wc := ⟨_, rfl⟩
    have HSM := Aside0.mk hQ.sm
    have HFW := Aside0.mk hQ.fr
    obtain ⟨nl, hnl⟩ : ∃ nl, lsF.length = nl := ⟨_, rfl⟩
    have HNL := Aside0.mk hnl
    have hnl2 : nl ≤ 500 := by omega
    have HLST := Aside0.mk hQ.l
    have HWN := Aside0.mk hQ.w
    obtain ⟨AL, cL, hvL, -, -⟩ := hQ.l.rbs
    obtain ⟨AW, cW, hvW, -, -⟩ := Kd.R_reads hQ.w
    rw [hnl] at hvL hvW
    subst hvL hvW
    have HBZ : Aside0 (w.heap.size ≤ wq.heap.size) := ⟨hQ.fr.size⟩
    clear hQ hll hnl hcut
    go_wp2_with fail
    go_loopw [25] (fun i wr => ∃ k : Nat, k ≤ nl ∧ i = .int .i64 k ∧ Aside0 (Fr No wq wr)) (fun i _ => nl - (intOf i).toNat)
    case atStart => exact ⟨0, by omega, rfl, ⟨Fr.refl _ _⟩⟩
    case round =>
      rename World => wr
      obtain ⟨k, hk, rfl, HF⟩ := hrel
      by_cases hkl : k < nl
      · have hki : (k : Int) < (nl : Int) := by omega
        obtain ⟨adL, hAL, hcl0⟩ := HLST.out.at_ k (by rw [HNL.out]; exact hkl)
        obtain ⟨adW, hAW, hcw0⟩ := scalar_at (Kd.R_readsC HWN.out) k (by rw [HNL.out]; exact hkl)
        have hm := HLST.out.rows.mine k (by rw [HNL.out]; exact hkl)
        obtain ⟨Dk, ck, hvk, -, hrk⟩ := hm.reads
        rw [hvk] at hcl0
        have hcl := HF.out.cell hcl0 id
        have hcw := HF.out.cell hcw0 id
        subst hAL hAW
        rw [← rowL_at lsF k (by rw [HNL.out]; exact hkl)] at hcw
        generalize rowL lsF k = l at *
        have h1 := fun n => Kd.C_string (P := Tryd.prog) (c := ck) Tryd.underlying22 Tryd.underlying5 Tryd.underlying9 (C_fr hrk (HF.out.then_ ((Fr.refl No wr).drewN n)))
        rw [str_bi] at h1
        have hbe : ((⟨l.toArray⟩ : ByteArray).toList == (⟨l.toArray⟩ : ByteArray).toList) = true := beq_self_eq_true _
        clear hcl0 hcw0 hm hvk hrk
        go_wp2_with fail
        go_quiet (fail)
        have HF1 : Aside0 (Fr No wq (wr.drewN nq)) := ⟨HF.out.drewN nq⟩
        go_wp2_with fail
        exact ⟨⟨k + 1, by omega, by go_num, HF1⟩, by simp [intOf]; omega⟩
      · obtain rfl : nl = k := by omega
        have HL5 : Aside0 (LstV wr w.heap.size (.slice AL nl cL) esF lsF) := ⟨HLST.out.fr HF.out (fun _ _ => id)⟩
        have HF5 : Aside0 (Fr No w wr) := ⟨HFW.out.then_ HF.out⟩
        obtain ⟨w5, rfl⟩ : ∃ w5 : World, w5 = wr := ⟨_, rfl⟩
        clear HF HLST HWN HFW HBZ
        have HAC : Aside0 (∀ wr, Fr (OwnD nl (rowV esF)) w5 wr → ∀ i, i < nl → ∃ ad, AL = some ad ∧ wr.cell? (ad.add i) = some (rowV esF i)) := ⟨fun wr hf i hi => by
          obtain ⟨ad, e, hc⟩ := HL5.out.at_ i (by rw [HNL.out]; exact hi)
          refine ⟨ad, e, hf.cell hc ?_⟩
          rw [blk_of_add]
          have := HL5.out.arr_ne ad.block (by rw [e]; rfl)
          rwa [HNL.out] at this⟩
        have HR0 : Aside0 (RowsF w5 w.heap.size nl (rowV esF) (rowL lsF)) := ⟨by have := HL5.out.rows; rwa [HNL.out] at this⟩
        have HRL : Aside0 (∀ j, (rowL lsF j).length ≤ 67108864) := ⟨fun j => by
          by_cases hj : j < lsF.length
          · rw [rowL_at _ _ hj]; exact HSM.out _ (List.getElem_mem _)
          · unfold rowL; simp [List.getD_eq_getElem?_getD, List.getElem?_eq_none (by omega : lsF.length ≤ j)]⟩
        obtain ⟨M, hM⟩ : ∃ M : Nat → List UInt8, M = fun j => markL j (rowL lsF j).length := ⟨_, rfl⟩
        have HML : Aside0 (∀ j, (M j).length = (rowL lsF j).length) := ⟨fun j => by rw [hM]; exact markL_length _ _⟩
        have HMB : Aside0 (∀ j k (h : k < (M j).length), (M j)[k] = mkB j k) := ⟨fun j k h => by subst hM; simp [markL]⟩
        have HMD := Aside0.mk hM
        clear hM HSM
        generalize rowL lsF = rs at *
        generalize rowV esF = vs at *
        go_wp2_with fail
        go_loopw [26, 27] (fun i s27 wr => ∃ x : Nat, x ≤ nl ∧ i = .int .i64 x ∧ Aside0 (RowsF wr w.heap.size nl vs (rowsAt M rs x 0)) ∧ Aside0 (Fr (OwnD nl vs) w5 wr)) (fun i _ _ => nl - (intOf i).toNat)
        case atStart => exact ⟨0, by omega, rfl, ⟨HR0.out.congr (fun j _ => (rowsAt_zero M rs j).symm)⟩, ⟨Fr.refl _ _⟩⟩
        case round => as_aux_lemma =>
          rename World => wr
          obtain ⟨x, hx, rfl, HRX, HFX⟩ := hrel
          by_cases hlt : x < nl
          · have hxi : (x : Int) < (nl : Int) := by omega
            obtain ⟨Ax, cx, hvx, -, -⟩ := (HRX.out.mine x hlt).reads
            rw [rowsAt_length M rs x 0 x HML.out (by omega)] at hvx
            have HVX := Aside0.mk hvx
            obtain ⟨len, hlen⟩ : ∃ len, (rs x).length = len := ⟨_, rfl⟩
            have HLEN := Aside0.mk hlen
            have hlm : len ≤ 67108864 := by rw [← hlen]; exact HRL.out x
            rw [hlen] at hvx HVX
            obtain ⟨adq, hALq, -⟩ := HAC.out w5 (Fr.refl _ _) x hlt
            subst hALq
            clear hvx hlen
            go_wp2_with fail
            go_loopw [27] (fun i wr => ∃ k : Nat, k ≤ len ∧ i = .int .i64 k ∧ Aside0 (RowsF wr w.heap.size nl vs (rowsAt M rs x k)) ∧ Aside0 (Fr (OwnD nl vs) w5 wr)) (fun i _ => len - (intOf i).toNat)
            case atStart => exact ⟨0, by omega, rfl, HRX, HFX⟩
            case round => as_aux_lemma =>
              clear HRX HFX
              rename World => wr
              obtain ⟨k, hk, rfl, HRX, HFX⟩ := hrel
              obtain ⟨ad, hAe, hcx⟩ := HAC.out _ HFX.out x hlt
              obtain rfl := Option.some.inj hAe
              rw [HVX.out] at hcx
              by_cases hkl : k < len
              · have hki : (k : Int) < (len : Int) := by omega
                obtain ⟨g, cg, hvg, hgl, hgd, -⟩ := HRX.out.form x hlt (by rw [rowsAt_length M rs x k x HML.out (by rw [HLEN.out]; omega), HLEN.out]; omega)
                rw [HVX.out] at hvg
                obtain rfl : Ax = some ⟨g, 0, none⟩ := by injection hvg
                have hkm : k < (M x).length := by rw [HML.out, HLEN.out]; exact hkl
                obtain ⟨⟨u, hcu⟩, hfu, hput⟩ := HRX.out.put x hlt k (by rw [rowsAt_length M rs x k x HML.out (by rw [HLEN.out]; omega), HLEN.out]; exact hkl) (by rw [HVX.out, rowsAt_length M rs x k x HML.out (by rw [HLEN.out]; omega), HLEN.out]) ((M x)[k]'hkm)
                have HPUT : Aside0 (RowsF (wr.setCell ⟨g, k, none⟩ (.int .u8 (((M x)[k]'hkm).toNat : Int))) w.heap.size nl vs (rowsAt M rs x (k + 1))) := ⟨hput.congr (fun j _ => rowsAt_set M rs x k j (HML.out x) (by rw [HLEN.out]; exact hkl) hkm)⟩
                have HFP : Aside0 (Fr (OwnD nl vs) w5 (wr.setCell ⟨g, k, none⟩ (.int .u8 (((M x)[k]'hkm).toNat : Int)))) := ⟨HFX.out.setCell (.inl hgd) _⟩
                have HMK := Aside0.mk (HMB.out x k hkm)
                clear hput hvg hgl hgd hAe
                have HMC : Aside0 (∀ W, Calls Tryd.prog 73 #[.int .i64 (x : Int), .int .i64 (k : Int)] W fun e w'' => e = .returned (.int .u8 (((M x)[k]'hkm).toNat : Int)) ∧ w'' = W) := ⟨fun W => by
                  rw [HMB.out x k hkm]
                  exact (mark_calls x k W (by omega) (by omega)).mono fun _ _ ⟨he, hw⟩ => ⟨he, hw.symm⟩⟩
                clear HMK
                generalize (M x)[k]'hkm = y at *
                go_wp2_with fail
                go_still_tail 8, (by kernel_rfl)
                still_call (HMC.out _)
                repeat still_step
                refine wpStill_nil ?_
                go_wp2_with fail
                exact ⟨⟨k + 1, by omega, by go_num, ⟨HPUT.out.fr (Fr.refl No _).drew (fun _ _ => id)⟩, ⟨HFP.out.then_ (Fr.refl No _).drew⟩⟩, by simp [intOf]; omega⟩
              · obtain rfl : k = len := by omega
                have HRN : Aside0 (RowsF wr w.heap.size nl vs (rowsAt M rs (x + 1) 0)) := ⟨HRX.out.congr (fun j _ => by rw [← HLEN.out]; exact rowsAt_next M rs x j (HML.out x))⟩
                go_wp2_with fail
                exact ⟨⟨x + 1, by omega, by go_num, HRN, HFX⟩, by simp [intOf]; omega⟩
          · obtain rfl : x = nl := by omega
            have HI0 : Aside0 (∃ ms, MoreI wr wr w.heap.size x vs M (.slice none 0 0) ms 0) := ⟨[], MoreI.start (HRX.out.congr (fun j hj => by unfold rowsAt; rw [if_pos hj]))⟩
            have HF7 := Aside0.mk HFX.out
            have HMS : Aside0 (∀ j, (M j).length ≤ 67108864) := ⟨fun j => by rw [HML.out]; exact HRL.out j⟩
            have HLT7 : Aside0 (∀ k, OwnD x vs k → k < wr.heap.size) := ⟨fun k hk => (HRX.out.lt hk).2⟩
            have HB7 : Aside0 (w.heap.size ≤ wr.heap.size) := ⟨by have := HF5.out.size; have := HFX.out.size; omega⟩
            obtain ⟨w7, rfl⟩ : ∃ w7 : World, w7 = wr := ⟨_, rfl⟩
            clear HRX HFX
            go_wp2_with fail
            go_loopw [28, 29] (fun v28 i wr => ∃ k : Nat, k ≤ x ∧ i = .int .i64 k ∧ Aside0 (∃ ms, MoreI w7 wr w.heap.size x vs M v28 ms k)) (fun _ i _ => x - (intOf i).toNat)
            case atStart => exact ⟨0, by omega, rfl, HI0⟩
            case round => as_aux_lemma =>
              clear HI0
              rename World => wr
              obtain ⟨k, hk, rfl, HI⟩ := hrel
              obtain ⟨ms, hI⟩ := HI.out
              have HMI := Aside0.mk hI
              by_cases hkl : k < x
              · have hki : (k : Int) < (x : Int) := by omega
                obtain ⟨adq, hALq, hcl⟩ := HAC.out wr (HF7.out.trans hI.fr (fun k hk => .inl hk)) k hkl
                subst hALq
                obtain ⟨Ak, ck, hvk, -, -⟩ := (hI.rows.mine k hkl).reads
                obtain ⟨nk, hnk⟩ : ∃ nk, (M k).length = nk := ⟨_, rfl⟩
                have HNK := Aside0.mk hnk
                rw [hnk] at hvk
                have HVK := Aside0.mk hvk
                rw [hvk] at hcl
                obtain ⟨L28, c28, hv28, -, -⟩ := Kd.R_reads hI.arr
                rw [hI.len] at hv28
                subst hv28
                have HMC : Aside0 (∀ W, Calls Tryd.prog 74 #[.int .i64 (IntKind.i64.wrap (1048576 + (k : Int))), .int .i64 70] W fun e w' => ∃ D cd, e = .returned (.slice D 70 cd) ∧ Rb w' D (markL (1048576 + k) 70) ∧ 70 ≤ cd ∧ Fr No W w' ∧ ∀ ad, D = some ad → W.heap.size ≤ ad.block) := ⟨fun W => by
                  rw [IntWalk.i64_in (1048576 + (k : Int)) (by omega)]
                  exact marked_at2 (1048576 + k) 70 W (by omega) (by omega)⟩
                have HGC : Aside0 (∀ W3 D cd, Fr No wr W3 → Rb W3 D (markL (1048576 + k) 70) → (∀ ad, D = some ad → wr.heap.size ≤ ad.block) → 70 ≤ cd →
                    Calls Tryd.prog 75 #[.slice Ak nk ck, .slice D 70 cd] W3 fun e w' => ∃ Dg mg cg, e = .returned (.slice Dg mg cg) ∧ MoreG w7 w' w.heap.size x vs M (.slice L28 k c28) ms k (Dg, mg, cg)) := ⟨fun W3 D cd hf hr hn hc => by
                  have := HMI.out.grow_calls hkl (HB7.out) (HMS.out k) HLT7.out hf hr hn hc
                  rw [HVK.out] at this
                  exact this⟩
                clear hI hvk hnk HI
                go_wp2_with fail
                have HCK : Aside0 (∀ W, Fr (OwnD x vs) w7 W → W.cell? (adq.add k) = some (.slice Ak nk ck)) := ⟨fun W hf => by
                  obtain ⟨ad2, e, hc⟩ := HAC.out W (HF7.out.trans hf (fun k hk => .inl hk)) k hkl
                  obtain rfl := Option.some.inj e
                  rw [hc, HVK.out]⟩
                go_region_held3 (fun w' => w'.cell? (adq.add k) = some (.slice Ak nk ck)) (go_keep)
                  (first
                    | (go_at_call 74; refine (HMC.out _).mono ?_; rintro e w3 ⟨D, cd, rfl, hr, hcd, hf3, hn3⟩; have HF3 : Aside0 (Fr No wr w3) := ⟨((Fr.refl No wr).drew).then_ hf3⟩; have k1 := HF3.out.cell hcl id; have HR3 := Aside0.mk hr; have HN3 : Aside0 (∀ ad, D = some ad → wr.heap.size ≤ ad.block) := ⟨hn3⟩; have HCD := Aside0.mk hcd; clear hr hf3 hn3 hcd)
                    | (go_at_call 75; refine (HGC.out _ D cd HF3.out HR3.out HN3.out HCD.out).mono ?_; rintro e w4 ⟨Dg, mg, cg, rfl, hG⟩; have HG4 := Aside0.mk hG; have k2 := HCK.out w4 hG.i.fr; have HAR : Aside0 (Kd.R KV 22 (w4.alloc (.cells #[.slice Dg mg cg] 22)) w7.heap.size (fun _ => True) (.slice L28 k c28) ms) := ⟨scalar_fr hG.i.arr ((Fr.refl No w4).alloc _) (fun _ _ => id)⟩; have HL1 : Aside0 (KV.C (w4.alloc (.cells #[.slice Dg mg cg] 22)) (some ⟨w4.heap.size, 0, none⟩) 1 [(Dg, mg, cg)]) := ⟨lit1q w4 (Dg, mg, cg)⟩; have HBZ : Aside0 (w7.heap.size ≤ (w4.alloc (.cells #[.slice Dg mg cg] 22)).heap.size) := ⟨by have := hG.i.fr.size; simp; omega⟩; have HLL : Aside0 ((ms.length + 1) * 24 ≤ 140737488355328) := ⟨by rw [hG.i.len]; omega⟩; have k4 := ((Fr.refl No w4).alloc (.cells #[.slice Dg mg cg] 22)).cell k2 id; clear hG)
                    | (refine app_scalar_step (enc := slcV) (h1 := fun _ => rfl) w7.heap.size (by rfl) (.tmp 343) (.tmp 352) 34 22 (.slice none 0 0) 24 (by rfl) Tryd.underlying34 infoRow rfl (by decide) (.slice L28 k c28) ms [(Dg, mg, cg)] _ 1 _ (by rfl) (by rfl) HAR.out HL1.out HBZ.out HLL.out ?_; intro v1 w1 hm hf ho; have hnx := HG4.out.push hm ((Fr.refl No w4).alloc _) hf; have k3 := HCK.out w1 hnx.fr; have HNX : Aside0 (∃ ms, MoreI w7 w1 w.heap.size x vs M v1 ms (k + 1)) := ⟨⟨_, hnx⟩⟩; clear hm hf ho hnx))
                go_wp2_with fail
                exact ⟨⟨k + 1, by omega, by go_num, HNX⟩, by simp [intOf]; omega⟩
              · obtain rfl : x = k := by omega
                have HF8 : Aside0 (Fr No w wr) := ⟨(HF5.out.trans HF7.out (fun k hk => .inr (HR0.out.lt hk).1)).trans hI.fr (fun k hk => .inr (HR0.out.lt hk).1)⟩
                have HC8 : Aside0 (∀ W, Fr No wr W → ∀ i, i < x → ∃ ad, AL = some ad ∧ W.cell? (ad.add i) = some (vs i)) := ⟨fun W hf i hi => HAC.out W ((HF7.out.trans hI.fr (fun k hk => .inl hk)).then_ hf) i hi⟩
                obtain ⟨L28, c28, hv28, -, -⟩ := Kd.R_reads hI.arr
                rw [hI.len] at hv28
                subst hv28
                obtain ⟨w8, rfl⟩ : ∃ w8 : World, w8 = wr := ⟨_, rfl⟩
                clear hI HI HF5 HF7 HAC HR0
                go_wp2_with fail
                go_loopw [30, 31] (fun i s31 wr => ∃ k : Nat, k ≤ x ∧ i = .int .i64 k ∧ Aside0 (Fr No w8 wr)) (fun i _ _ => x - (intOf i).toNat)
                case atStart => exact ⟨0, by omega, rfl, ⟨Fr.refl _ _⟩⟩
                case round => as_aux_lemma =>
                  rename World => wr
                  obtain ⟨k, hk, rfl, HF⟩ := hrel
                  by_cases hkl : k < x
                  · have hki : (k : Int) < (x : Int) := by omega
                    obtain ⟨adq, hALq, hcl⟩ := HC8.out wr HF.out k hkl
                    subst hALq
                    obtain ⟨Ak, ck, hvk, -, hra⟩ := (HMI.out.rows.mine k hkl).reads
                    obtain ⟨adm, hLm, hcm0⟩ := scalar_at (Kd.R_readsC HMI.out.arr) k (by rw [HMI.out.len]; exact hkl)
                    have hcm := HF.out.cell hcm0 id
                    subst hLm
                    have hel := (HMI.out.el k (by rw [HMI.out.len]; exact hkl)).1
                    obtain ⟨g, gk, hvg, -, -, -⟩ := Kd.R_form hel (by rw [bi_length, List.length_append, markL_length]; omega)
                    obtain ⟨G2, g2, hvg2, hgl, hrg⟩ := hel.reads
                    rw [hvg] at hvg2
                    injection hvg2 with i1 i2 i3
                    subst i1 i3
                    rw [hvg, bi_length] at hcm
                    have hmm : markL k (M k).length = M k := by
                      have h1 := congrFun HMD.out k
                      rw [h1, markL_length]
                    obtain ⟨nk, hnk⟩ : ∃ nk, (M k).length = nk := ⟨_, rfl⟩
                    have hlen70 : (M k ++ markL (1048576 + k) 70).length = nk + 70 := by rw [List.length_append, markL_length, hnk]
                    have hnk2 : nk ≤ 67108864 := by rw [← hnk]; exact HMS.out k
                    rw [hnk] at hvk hmm
                    rw [hlen70] at hcm hgl
                    have hra2 : Rb w8 (some ⟨g, 0, none⟩) (M k) := by
                      have h1 := Rb_take hrg nk (by rw [hlen70]; omega)
                      rwa [List.take_left' hnk] at h1
                    have hrb2 : Rb w8 (some ⟨g, nk, none⟩) (markL (1048576 + k) 70) := by
                      have h1 := Rb_drop (c := gk) hrg nk (by rw [hlen70]; omega) (by rw [hlen70]; exact hgl)
                      rw [List.drop_left' hnk, if_neg (by omega)] at h1
                      have e : (some (⟨g, 0, none⟩ : Addr)).map (·.add nk) = some ⟨g, nk, none⟩ := by rw [Option.map_some, add_plain]
                      rwa [e] at h1
                    have HRW : Aside0 (∀ W, Fr No wr W → Rb W Ak (M k) ∧ Rb W (some ⟨g, 0, none⟩) (M k) ∧ Rb W (some ⟨g, nk, none⟩) (markL (1048576 + k) 70)) := ⟨fun W hf => ⟨C_fr hra (HF.out.then_ hf), C_fr hra2 (HF.out.then_ hf), C_fr hrb2 (HF.out.then_ hf)⟩⟩
                    have HNK := Aside0.mk hnk
                    rw [hvk] at hcl
                    have HMA : Aside0 (∀ W, Calls Tryd.prog 74 #[.int .i64 (k : Int), .int .i64 (nk : Int)] W fun e w' => ∃ D cd, e = .returned (.slice D nk cd) ∧ Rb w' D (M k) ∧ nk ≤ cd ∧ Fr No W w' ∧ ∀ ad, D = some ad → W.heap.size ≤ ad.block) := ⟨fun W => by
                      have := marked_at2 k nk W (by omega) (by omega)
                      rwa [hmm] at this⟩
                    have HMC : Aside0 (∀ W, Calls Tryd.prog 74 #[.int .i64 (IntKind.i64.wrap (1048576 + (k : Int))), .int .i64 70] W fun e w' => ∃ D cd, e = .returned (.slice D 70 cd) ∧ Rb w' D (markL (1048576 + k) 70) ∧ 70 ≤ cd ∧ Fr No W w' ∧ ∀ ad, D = some ad → W.heap.size ≤ ad.block) := ⟨fun W => by
                      rw [IntWalk.i64_in (1048576 + (k : Int)) (by omega)]
                      exact marked_at2 (1048576 + k) 70 W (by omega) (by omega)⟩
                    have HMC2 : Aside0 (∀ W, Calls Tryd.prog 74 #[.int .i64 (1048576 + (k : Int)), .int .i64 70] W fun e w' => ∃ D cd, e = .returned (.slice D 70 cd) ∧ Rb w' D (markL (1048576 + k) 70) ∧ 70 ≤ cd ∧ Fr No W w' ∧ ∀ ad, D = some ad → W.heap.size ≤ ad.block) := ⟨fun W => marked_at2 (1048576 + k) 70 W (by omega) (by omega)⟩
                    have hM70 : (markL (1048576 + k) 70).length = 70 := markL_length _ _
                    have HM70 := Aside0.mk hM70
                    have hn0 : (0 : Int) ≤ (nk : Int) := by omega
                    have hng : (nk : Int) ≤ (gk : Int) := by omega
                    obtain ⟨nt, hnt⟩ : ∃ nt, nk + 70 = nt := ⟨_, rfl⟩
                    have hng2 : (nt : Int) ≤ (gk : Int) := by omega
                    have hnn : (nk : Int) ≤ (nt : Int) := by omega
                    have hne : ¬ gk = nk := by omega
                    have hsub : nt - nk = 70 := by omega
                    rw [hnt] at hcm
                    clear hnt hvk hra hcm0 hel hvg hrg i2 hmm hnk hlen70 hra2 hrb2 hM70 hgl
                    generalize M k = mk at *
                    generalize markL (1048576 + k) 70 = m70 at *
                    go_wp2_with fail
                    go_region_held3 (fun w' => w'.cell? (adq.add k) = some (.slice Ak nk ck) ∧ w'.cell? (adm.add k) = some (.slice (some ⟨g, 0, none⟩) nt gk)) (go_keep)
                      (first
                        | (go_at_call 74; (with_reducible refine (HMA.out _).mono ?_); rintro e w9 ⟨D, cd, rfl, hr, hcd, hf9, hn9⟩; have HF9 : Aside0 (Fr No wr w9) := ⟨((Fr.refl No wr).drew).then_ hf9⟩; have k1 := HF9.out.cell hcl id; have k2 := HF9.out.cell hcm id; have HR9 := Aside0.mk hr; clear hr hf9 hn9 hcd)
                        | (go_at_call 74; (with_reducible refine (HMC.out _).mono ?_); rintro e w10 ⟨D2, cd2, rfl, hr, hcd, hf10, hn10⟩; have HF10 : Aside0 (Fr No wr w10) := ⟨HF9.out.then_ hf10⟩; have k3 := HF10.out.cell hcl id; have k4 := HF10.out.cell hcm id; have HR10 := Aside0.mk hr; clear hr hf10 hn10 hcd)
                        | (go_at_call 74; (with_reducible refine (HMC2.out _).mono ?_); rintro e w10 ⟨D2, cd2, rfl, hr, hcd, hf10, hn10⟩; have HF10 : Aside0 (Fr No wr w10) := ⟨HF9.out.then_ hf10⟩; have k3 := HF10.out.cell hcl id; have k4 := HF10.out.cell hcm id; have HR10 := Aside0.mk hr; clear hr hf10 hn10 hcd)
                        | (go_at_call 23; (with_reducible refine (same_callsN4 mk nk HNK.out Ak D ck cd w9 (HRW.out w9 HF9.out).1 HR9.out).mono ?_); rintro e w' ⟨rfl, rfl⟩)
                        | (go_at_call 23; (with_reducible refine (same_callsN4 mk nk HNK.out (some ⟨g, 0, none⟩) Ak gk ck w9 (HRW.out w9 HF9.out).2.1 (HRW.out w9 HF9.out).1).mono ?_); rintro e w' ⟨rfl, rfl⟩)
                        | (go_at_call 23; (with_reducible refine (same_callsN4 m70 70 HM70.out (some ⟨g, nk, none⟩) D2 _ cd2 w10 (HRW.out w10 HF10.out).2.2 HR10.out).mono ?_); rintro e w' ⟨rfl, rfl⟩))
                    go_wp2_with fail
                    exact ⟨⟨k + 1, by omega, by go_num, ⟨HF.out.then_ HF10.out⟩⟩, by simp [intOf]; omega⟩
                  · obtain rfl : x = k := by omega
                    go_wp2_with fail
                    go_ret
                    exact ⟨rfl, HF8.out.then_ HF.out⟩
end Go.Proofs.YtbaeddppihjgfaaDoor.Sg
