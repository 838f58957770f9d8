/- The walk of the law DigestBook. -/
import Derived.Test.YtbaeddppihjgfaaDoorBookMainA
import Derived.Test.YtbaeddppihjgfaaDoorBookQuiet
import Derived.Test.YtbaeddppihjgfaaDoorHead
namespace Go.Proofs.YtbaeddppihjgfaaDoor.Sg
open Go Go.RowKit Go.Proofs.YtbaeddppihjgfaaDoorW.PrintWords
set_option linter.unusedVariables false
set_option maxRecDepth 100000 in
set_option maxHeartbeats 20000000 in
theorem book_raw (w : World) (ps : LL) (n : Nat) (hnp : ps.length = n) (A : Option Addr) (c : Nat) (hr : Rbs w A ps) (hc : n ≤ c) (hn5 : n ≤ 5864062014634) (hl : ∀ l ∈ ps, l.length ≤ 140737488351232) (hT : Tabs w) :
    Calls Tryd.prog 16 #[.slice A n c] w fun e w' => e = .returned (.bool true) ∧ Fr No w w' := by
  have HR := Aside0.mk hr; have HL := Aside0.mk hl; have HT := Aside0.mk hT; have HNP := Aside0.mk hnp
  have hci : (n : Int) ≤ (c : Int) := by omega
  clear hr hl hT hnp
  go_enter Tryd.func16, Tryd.ntmps16
  go_wp2_with fail
  refine (head_calls w (HT.out.k _ (Fr.refl _ _)) (HT.out.f _ (Fr.refl _ _))).mono ?_
  rintro e w1 ⟨rfl, hf⟩
  have HF1 := Aside0.mk hf
  clear hf
  by_cases hbig : 200 < n
  · have hb : (200 : Int) < (n : Int) := by omega
    go_wp2_with fail
    refine (head_calls w1 (HT.out.k _ HF1.out) (HT.out.f _ HF1.out)).mono ?_
    rintro e w2 ⟨rfl, hf⟩
    have HF2 := Aside0.mk (HF1.out.then_ hf)
    clear hf
    go_wp2_with fail
    go_ret
    exact ⟨rfl, HF2.out⟩
  have hb : ¬ (200 : Int) < (n : Int) := by omega
  have hn : n ≤ 200 := by omega
  have HB0 : Aside0 (∃ ok N os cs, BkI w (w1.alloc (.cells #[.int .i64 0, .slice none 0 0, .slice none 0 0] 71)) w1.heap.size ok N (.slice none 0 0) os cs ∧ N ≤ 2000 * 0 ∧ os.length ≤ 3 * 0) := ⟨_, 0, [], _, book_start w w1 HF1.out, by omega, by simp⟩
  clear hbig
  go_wp2_with fail
  generalize w1.alloc (.cells #[.int .i64 0, .slice none 0 0, .slice none 0 0] 71) = wb at *
  generalize w1.heap.size = p at *
  go_loopw [4, 5] (fun vO i wr => ∃ x : Nat, x ≤ n + 1 ∧ i = .int .i64 x ∧ Aside0 (∃ ok N os cs, BkI w wr p ok N vO os cs ∧ N ≤ 2000 * x ∧ os.length ≤ 3 * x) ∧ Aside0 (∀ j, j < x → frameOk (ps.take j) = true)) (fun _ i _ => n + 1 - (intOf i).toNat)
  case atStart => exact ⟨0, by omega, rfl, HB0, ⟨fun j hj => by omega⟩⟩
  case round => as_aux_lemma =>
    clear HB0 HF1
    obtain ⟨x, hx, rfl, HB, HOK⟩ := hrel
    by_cases hlt : x ≤ n
    · have hxn : (x : Int) ≤ (n : Int) := by omega
      have hxc : (x : Int) ≤ (c : Int) := by omega
      have hx0 : (0 : Int) ≤ (x : Int) := by omega
      obtain ⟨ok, N, os, cs, hB, hN, hO⟩ := HB.out
      have HBI := Aside0.mk hB; have HNN := Aside0.mk hN; have HOO := Aside0.mk hO
      have HQL : Aside0 ((ps.take x).length = x) := ⟨by rw [List.length_take, HNP.out]; omega⟩
      have HRQ : Aside0 (∀ W, Fr No w W → Rbs W A (ps.take x)) := ⟨fun W hg => Rbs_take (HR.out.fr hg) x (by rw [HNP.out]; omega)⟩
      have HQS : Aside0 (∀ l ∈ ps.take x, l.length ≤ 140737488351232) := ⟨fun l hl => HL.out l (List.mem_of_mem_take hl)⟩
      have HOKX : Aside0 (frameOk (ps.take x) = true → ∀ j, j < x + 1 → frameOk (ps.take j) = true) := ⟨fun h j hj => by
        by_cases e : j = x
        · subst e; exact h
        · exact HOK.out j (by omega)⟩
      have HF0 := Aside0.mk hB.fr
      clear hB hN hO HB HOK
      generalize ps.take x = q at *
      by_cases hfo : frameOk q = true
      · have HQO := Aside0.mk hfo
        have HPF := Aside0.mk (parts_of_frame q hfo)
        have HFL := Aside0.mk (frameL_small hfo)
        have HQ6 := Aside0.mk (frame_small hfo)
        clear hfo
        go_wp2_with fail
        refine (frameQ_calls q x HQL.out A c _ (HRQ.out _ HF0.out) (by omega) (by omega) HQS.out HQO.out).mono ?_
        rintro e w1 ⟨vf, rfl, hm, hf⟩
        obtain ⟨Df, cf, hvf, -, -⟩ := hm.reads
        subst hvf
        have HMF := Aside0.mk hm; have HF1 := Aside0.mk hf; have HT1 : Aside0 (Fr No w w1) := ⟨HF0.out.then_ hf⟩
        clear hm hf
        go_wp2_with (go_at_call 34; refine (numK_calls _ _).mono ?_; rintro e w' ⟨rfl, rfl⟩)
        refine (partsV_calls HMF.out (by have := HFL.out; omega)).mono ?_
        rw [HPF.out.1, HPF.out.2]
        rintro e w2 ⟨vl, rfl, hm, hf⟩
        obtain ⟨el, hel⟩ := hm.lst
        obtain ⟨Al, cl, hvl, -, -⟩ := hel.rbs
        rw [HQL.out] at hvl
        subst hvl
        have HML := Aside0.mk hel; have HF2 := Aside0.mk hf; have HT2 : Aside0 (Fr No w w2) := ⟨HT1.out.then_ hf⟩
        clear hm hf hel
        go_wp2_with fail
        refine (domainQ_calls q x HQL.out A c _ (HRQ.out _ HT2.out) (by omega) (by omega) HQS.out (HT.out.k _ HT2.out) (HT.out.f _ HT2.out)).mono ?_
        rintro e w3 ⟨vd, rfl, hm, hf⟩
        obtain ⟨Dd, cd, hvd, -, -⟩ := hm.reads
        subst hvd
        have HMD := Aside0.mk hm; have HF3 := Aside0.mk hf; have HT3 : Aside0 (Fr No w w3) := ⟨HT2.out.then_ hf⟩
        have HDE := Aside0.mk (frameE_two ([120] :: q))
        clear hm hf
        generalize frameE ([120] :: q) = dE at *
        go_wp2_with fail
        refine (rootQ_calls q x HQL.out A c _ (HRQ.out _ HT3.out) (by omega) (by omega) HQS.out (HT.out.k _ HT3.out) (HT.out.f _ HT3.out)).mono ?_
        rintro e w4 ⟨vr, rfl, hm, hf⟩
        obtain ⟨Dr, cr, hvr, -, -⟩ := hm.reads
        subst hvr
        have HMR := Aside0.mk hm; have HF4 := Aside0.mk hf; have HT4 : Aside0 (Fr No w w4) := ⟨HT3.out.then_ hf⟩
        clear hm hf
        go_wp2_with fail
        refine (sumV_calls ((((HMF.out.fr HF2.out (fun _ _ => id)).fr HF3.out (fun _ _ => id)).fr HF4.out (fun _ _ => id))) (by have := HFL.out; omega) (HT.out.k _ HT4.out) (HT.out.f _ HT4.out)).mono ?_
        rintro e w5 ⟨vs, rfl, hm, hf⟩
        obtain ⟨Ds, cs5, hvs, -, -⟩ := hm.reads
        subst hvs
        have HMS := Aside0.mk hm; have HF5 := Aside0.mk hf; have HT5 : Aside0 (Fr No w w5) := ⟨HT4.out.then_ hf⟩
        clear hm hf
        go_wp2_with fail
        refine (sumV_calls (((((HMF.out.fr HF2.out (fun _ _ => id)).fr HF3.out (fun _ _ => id)).fr HF4.out (fun _ _ => id))).fr HF5.out (fun _ _ => id)) (by have := HFL.out; omega) (HT.out.k _ HT5.out) (HT.out.f _ HT5.out)).mono ?_
        rintro e w6 ⟨vt, rfl, hm, hf⟩
        obtain ⟨Dt, ct, hvt, -, -⟩ := hm.reads
        subst hvt
        have HAN : Aside0 (Ans w w6 p ok N u4 os cs wr w1 w2 w3 w4 w5 w6 (.slice Df (frameL q).length cf) (.slice Al x cl) (.slice Dd (domB [120] q).length cd) (.slice Dr (treeL q).length cr) (.slice Ds (sha (frameL q)).length cs5) (.slice Dt (sha (frameL q)).length ct) el q (frameL q) (domB [120] q) (treeL q) (sha (frameL q))) := ⟨by
          have hB := HF0.out.size
          have z1 := HF1.out.size; have z2 := HF2.out.size; have z3 := HF3.out.size; have z4 := HF4.out.size; have z5 := HF5.out.size; have z6 := hf.size
          have g5 := HF5.out.then_ hf; have g4 := HF4.out.then_ g5; have g3 := HF3.out.then_ g4; have g2 := HF2.out.then_ g3; have g1 := HF1.out.then_ g2
          exact ⟨HBI.out.frN g1, fun k hk => (HBI.out.okb k hk).2, (Made.mk' HMF.out hB).frN g2, HML.out.fr g3 (fun _ _ => id), fun k hk => (HML.out.base hk).2, (Made.mk' HMD.out (by omega)).frN g4, (Made.mk' HMR.out (by omega)).frN g5, (Made.mk' HMS.out (by omega)).frN hf, Made.mk' hm (by omega), by omega⟩⟩
        have HOUT : Aside0 (∀ k, u4.ownBlock = some k ∨ OwnD os.length (rowV os) k → k < wr.heap.size) := ⟨fun k hk => (HBI.out.out.lt hk).2⟩
        clear hm hf HBI HMF HML HMD HMR HMS HF0 HF1 HF2 HF3 HF4 HF5 HT1 HT2 HT3 HT4 HT5
        go_upto_region 17 with fail
        go_cut [110] (fun s wx => s = .bool false ∧ Aside0 (Fr No w6 wx))
        case first => as_aux_lemma =>
          have HT6 := Aside0.mk HAN.out.bk.fr
          rcases HDE.out with h | h
          · subst h
            go_wp2_with (first
              | (go_at_call 34; refine (numK_calls _ _).mono ?_; rintro e w' ⟨rfl, rfl⟩)
              | (go_at_call 37; refine (sameAllV_calls HAN.out.l HQL.out (HRQ.out _ HT6.out)).mono ?_; rintro e w7 ⟨rfl, hf⟩; have HF7 := Aside0.mk hf; clear hf)
              | (go_at_call 23; refine (sameV_calls (HAN.out.frN HF7.out).s.mine (HAN.out.frN HF7.out).t.mine).mono ?_; rintro e w' ⟨rfl, rfl⟩)
              | (go_at_call 48; refine ((HAN.out.frN HF7.out).bk.still_calls (by have := HNN.out; omega)).mono ?_; rintro e w8 ⟨rfl, hf⟩; have HF8 := Aside0.mk hf; clear hf))
            go_meet
            exact ⟨rfl, ⟨HF7.out.then_ HF8.out⟩⟩
          · subst h
            go_wp2_with (first
              | (go_at_call 34; refine (numK_calls _ _).mono ?_; rintro e w' ⟨rfl, rfl⟩)
              | (go_at_call 37; refine (sameAllV_calls HAN.out.l HQL.out (HRQ.out _ HT6.out)).mono ?_; rintro e w7 ⟨rfl, hf⟩; have HF7 := Aside0.mk hf; clear hf)
              | (go_at_call 23; refine (sameV_calls (HAN.out.frN HF7.out).s.mine (HAN.out.frN HF7.out).t.mine).mono ?_; rintro e w' ⟨rfl, rfl⟩)
              | (go_at_call 48; refine ((HAN.out.frN HF7.out).bk.still_calls (by have := HNN.out; omega)).mono ?_; rintro e w8 ⟨rfl, hf⟩; have HF8 := Aside0.mk hf; clear hf))
            go_meet
            exact ⟨rfl, ⟨HF7.out.then_ HF8.out⟩⟩
        case rest =>
          obtain ⟨rfl, HF7⟩ := hcut
          obtain ⟨w7, rfl⟩ : ∃ w7 : World, w7 = wc := ⟨_, rfl⟩
          have HA7 := Aside0.mk (HAN.out.frN HF7.out)
          clear HAN HF7 HDE
          go_wp2_with fail
          refine (hexV_calls HA7.out.s.mine (by rw [sha_length]; decide)).mono ?_
          rintro e w8 ⟨rfl, hf⟩
          have HA8 := Aside0.mk (HA7.out.frN hf)
          clear hf HA7
          go_wp2_with fail
          refine (unhexV_calls (sha (frameL q)) w8 (by rw [sha_length]; decide)).mono ?_
          rintro e w9 ⟨vu, rfl, hm, hf⟩
          obtain ⟨Du, cu, hvu, -, -⟩ := hm.reads
          subst hvu
          have HR9 := Aside0.mk (HA8.out.rnd HOUT.out hf hm)
          have HZR : Aside0 (wr.heap.size ≤ w9.heap.size) := ⟨by have := HA8.out.sz; have := hf.size; omega⟩
          have HEL : Aside0 (el.length ≤ 60000) := ⟨by rw [HR9.out.wt.l.len, HQL.out]; omega⟩
          have HSX : Aside0 (∀ j, (sixL (domB [120] q) (treeL q) (sha (frameL q)) (sha (frameL q)) (frameL q) (sha (frameL q)) j).length ≤ 67108864) := ⟨fun j => by
            have h1 : (sha (frameL q)).length ≤ 67108864 := by rw [sha_length]; decide
            unfold sixL
            split
            · exact domB_small _ _
            · rw [tree_length]; decide
            · exact h1
            · exact h1
            · exact HFL.out
            · exact h1
            · decide⟩
          clear hf hm HA8
          go_upto_if 127 with (first
            | (go_at_call 34; refine (numK_calls _ _).mono ?_; rintro e w' ⟨rfl, rfl⟩)
            | (go_at_call 23; refine (sameV_calls (HR9.out.wt.six.mine 5 (by decide)) (HR9.out.wt.six.mine 2 (by decide))).mono ?_; rintro e w' ⟨rfl, rfl⟩))
          go_cut [4] (fun v4 wx => Aside0 (∃ ok N os cs, Rnd w wx p ok N v4 os cs wr.heap.size w9.heap.size (.slice Dd (domB [120] q).length cd) (.slice Dr (treeL q).length cr) (.slice Ds (sha (frameL q)).length cs5) (.slice Dt (sha (frameL q)).length ct) (.slice Df (frameL q).length cf) (.slice Du (sha (frameL q)).length cu) (.slice Al x cl) (domB [120] q) (treeL q) (sha (frameL q)) (sha (frameL q)) (frameL q) (sha (frameL q)) el q ∧ N ≤ 2000 * x + 800 ∧ os.length ≤ 3 * x + 1))
          case first => as_aux_lemma =>
            by_cases hxz : x = 0
            · have hg : ¬ (0 : Int) < (x : Int) := by omega
              have HD : Aside0 (∃ ok N os cs, Rnd w w9 p ok N u4 os cs wr.heap.size w9.heap.size (.slice Dd (domB [120] q).length cd) (.slice Dr (treeL q).length cr) (.slice Ds (sha (frameL q)).length cs5) (.slice Dt (sha (frameL q)).length ct) (.slice Df (frameL q).length cf) (.slice Du (sha (frameL q)).length cu) (.slice Al x cl) (domB [120] q) (treeL q) (sha (frameL q)) (sha (frameL q)) (frameL q) (sha (frameL q)) el q ∧ N ≤ 2000 * x + 800 ∧ os.length ≤ 3 * x + 1) := ⟨ok, N, os, cs, HR9.out, by have := HNN.out; omega, by have := HOO.out; omega⟩
              clear hxz
              go_wp2_with fail
              go_meet
              exact HD
            · have hg : (0 : Int) < (x : Int) := by omega
              have hx1 : (1 : Int) ≤ (x : Int) := by omega
              have hx1b : (0 : Int) ≤ (x : Int) - 1 := by omega
              have HXA : Aside0 ((x : Int) - 1 = ((x - 1 : Nat) : Int)) := ⟨by omega⟩
              have HX1 : Aside0 (x - 1 < x) := ⟨by omega⟩
              clear hxz
              have HT9 := Aside0.mk HR9.out.bk.fr
              go_wp2_with fail
              refine (proveQ_calls q x HQL.out A c _ (HRQ.out _ HT9.out) (by omega) (by omega) HQS.out (x - 1) HX1.out _ HXA.out (HT.out.k _ HT9.out) (HT.out.f _ HT9.out)).mono ?_
              rintro e w10 ⟨vw, rfl, hm, hf⟩
              obtain ⟨ew, hw⟩ := hm.lst
              obtain ⟨adp, Ap, cp, hAp, hcp0, hcpl, hrp⟩ := (HRQ.out w (Fr.refl _ _)).at_ (x - 1) (by rw [HQL.out]; exact HX1.out)
              have HTA : Aside0 (Fr No w w10) := ⟨HT9.out.then_ hf⟩
              have hcp := HTA.out.cell hcp0 id
              subst hAp
              have hxt : ((x : Int) - 1).toNat = x - 1 := by omega
              have hxl : (x : Int) - 1 < (x : Int) := by omega
              have HW32 := Aside0.mk (way_32q q (x - 1))
              have HWN : Aside0 ((wayL q (x - 1)).length < x) := ⟨by rw [way_length, HQL.out]; exact steps_lt x (x - 1) (by omega)⟩
              have HLQ : Aside0 ((q[x - 1]'(by rw [HQL.out]; exact HX1.out)).length ≤ 67108864) := ⟨HQ6.out _ (List.getElem_mem _)⟩
              have HRB := Aside0.mk (fun {cq : Nat} (hcq : (q[x - 1]'(by rw [HQL.out]; exact HX1.out)).length ≤ cq) (W : World) (hW : Fr No w W) (hwW : LstV W w9.heap.size vw ew (wayL q (x - 1))) => rebuildQ_calls q x (x - 1) HQL.out HX1.out (by omega) hwW rfl (C_fr hrp hW) rfl hcq (Nat.le_trans HLQ.out (by decide)) _ HXA.out (HT.out.k _ hW) (HT.out.f _ hW))
              have HCPL := Aside0.mk hcpl
              have HWL := Aside0.mk hw
              have HRA := Aside0.mk (HR9.out.frN hf)
              have HZ9 : Aside0 (w9.heap.size ≤ w10.heap.size) := ⟨hf.size⟩
              obtain ⟨Aw, cw, hvw, -, -⟩ := hw.rbs
              generalize hlq : (q[x - 1]'(by rw [HQL.out]; exact HX1.out)).length = nq at *
              generalize wayL q (x - 1) = L at *
              obtain ⟨nL, hnL⟩ : ∃ nL, L.length = nL := ⟨_, rfl⟩
              have HNL := Aside0.mk hnL
              rw [hnL] at hvw
              subst hvw
              clear hm hf hw hcp0 hcpl hrp hnL hlq
              go_wp2_with fail
              refine (HRB.out HCPL.out w10 HTA.out HWL.out).mono ?_
              rintro e w11 ⟨vy, rfl, hm, hf⟩
              obtain ⟨Dy, cy, hvy, -, -⟩ := hm.reads
              subst hvy
              have HMY : Aside0 (Mine w11 w.heap.size (.slice Dy (treeL q).length cy) (bi (treeL q))) := ⟨hm.lower HTA.out.size⟩
              have HYB : Aside0 (∀ k, (Value.slice Dy (treeL q).length cy).ownBlock = some k → w10.heap.size ≤ k ∧ k < w11.heap.size) := ⟨hm.base⟩
              have HR11 := Aside0.mk (HRA.out.frN hf)
              have HWL11 := Aside0.mk (HWL.out.fr hf (fun _ _ => id))
              have HWB : Aside0 (∀ k, OwnL (.slice Aw nL cw) ew L.length k → w9.heap.size ≤ k ∧ k < w10.heap.size) := ⟨fun k hk => HWL.out.base hk⟩
              have HZ10 : Aside0 (w10.heap.size ≤ w11.heap.size) := ⟨hf.size⟩
              have HTK1 := Aside0.mk (HR11.out.takeL_calls (by have := HNN.out; omega) HWL11.out HNL.out (Nat.le_refl _) HT9.out.size (fun k hk => (HR9.out.bk.okb k hk).2) (fun l hl => by rw [HW32.out l hl]; decide) (by have := HWN.out; have := HNL.out; omega))
              clear hm hf HRB HCPL HRA HWL
              go_wp2_with (first
                | (go_at_call 34; refine (numK_calls _ _).mono ?_; rintro e w' ⟨rfl, rfl⟩)
                | (go_at_call 23; refine (sameV_calls HMY.out (HR11.out.wt.six.mine 1 (by decide))).mono ?_; rintro e w' ⟨rfl, rfl⟩)
                | (go_at_call 51; (with_reducible refine HTK1.out.mono ?_); rintro e w12 ⟨rfl, ok1, hR12, hok1, hf12⟩
                   have HOK1 := Aside0.mk hok1
                   have HM12 : Aside0 (Mine w12 w.heap.size (.slice Dy (treeL q).length cy) (bi (treeL q))) := ⟨HMY.out.fr hf12 (fun k hk h2 => by
                     have hy := HYB.out k hk
                     rcases h2 with h2 | h2
                     · have := (HR9.out.bk.okb k h2).2; have := HZ9.out; omega
                     · have := (HWB.out k (.inr (by rw [HNL.out]; exact h2))).2; omega)⟩
                   have HWA : Aside0 (Kd.R KV 22 w12 w.heap.size (fun _ => True) (.slice Aw nL cw) ew) := ⟨scalar_fr (Kd.R_lower HWL11.out.arr HT9.out.size) hf12 (fun k hk h2 => by
                     have hb := HWB.out k (.inl hk)
                     rcases h2 with h2 | h2
                     · have := (HR9.out.bk.okb k h2).2; omega
                     · exact HWL11.out.arr_ne k hk (by rw [HNL.out]; exact h2))⟩
                   have HTK2 := Aside0.mk (hR12.take1_calls (by have := HNN.out; have := HWN.out; have := HNL.out; omega) HM12.out (fun k hk => by
                     have hy := HYB.out k hk
                     refine ⟨fun h2 => ?_, fun h2 => by have := HZ9.out; omega⟩
                     rcases (hok1 k h2).1 with h3 | h3 | h3
                     · have := (HR9.out.bk.okb k h3).2; have := HZ9.out; omega
                     · have := (HWB.out k (.inr (by rw [HNL.out]; exact h3))).2; omega
                     · omega) (by rw [tree_length]; decide))
                   have HR12 := Aside0.mk hR12
                   clear hR12 hok1 hf12)
                | (go_at_call 51; refine HTK2.out.mono ?_; rintro e w14 ⟨rfl, ok2, hR14, hok2, hf14⟩
                   have HN1 : Aside0 (∀ k, (Value.slice Aw nL cw).ownBlock = some k → ¬ ok1 k ∧ ¬ (Value.slice Dy (treeL q).length cy).ownBlock = some k) := ⟨fun k hk => by
                     have hb := HWB.out k (.inl hk)
                     refine ⟨fun h2 => ?_, fun h2 => by have := (HYB.out k h2).1; omega⟩
                     rcases (HOK1.out k h2).1 with h3 | h3 | h3
                     · have := (HR9.out.bk.okb k h3).2; omega
                     · exact HWL11.out.arr_ne k hk (by rw [HNL.out]; exact h3)
                     · have := HZ10.out; omega⟩
                   have HWA14 : Aside0 (Kd.R KV 22 w14 w.heap.size (fun _ => True) (.slice Aw nL cw) ew) := ⟨scalar_fr HWA.out hf14 (fun k hk h2 => h2.elim (HN1.out k hk).1 (HN1.out k hk).2)⟩
                   have HOK14 : Aside0 (∀ k, (slcV (Aw, nL, cw)).ownBlock = some k → ¬ ok2 k ∧ ¬ OwnD os.length (rowV os) k ∧ ¬ (wr.heap.size ≤ k ∧ k < w9.heap.size)) := ⟨fun k hk => by
                     have hb := HWB.out k (.inl hk)
                     refine ⟨fun h2 => ?_, fun h2 => ?_, fun h2 => by omega⟩
                     · rcases hok2 k h2 with h3 | h3 | h3
                       · exact (HN1.out k hk).1 h3
                       · exact (HN1.out k hk).2 h3
                       · have := (ownS_lt HWA.out k hk).2; omega
                     · have := HOUT.out k (.inr h2); have := HR9.out.hi; have := HZR.out; omega⟩
                   have HR14 := Aside0.mk hR14
                   clear hR14 hok2 hf14)
                | (at_builtin; refine app_scalar (enc := slcV) (h1 := fun _ => rfl) (none, 0, 0) w.heap.size rfl (.tmp 175) (.tmp 177) 72 34 (.slice none 0 0) 24 rfl Tryd.underlying72 infoRows rfl (by decide) _ os [(Aw, nL, cw)] _ 1 _ rfl rfl (scalar_fr HR14.out.bk.out.arr ((Fr.refl No w14).alloc _) (fun _ _ => id)) (litO w14 (Aw, nL, cw)) (by have := HR14.out.bk.fr.size; simp; omega) (by have := HOO.out; omega) ?_
                   intro v1 w15 hm hf ho
                   have HD : Aside0 (∃ ok N os cs, Rnd w w15 p ok N v1 os cs wr.heap.size w9.heap.size (.slice Dd (domB [120] q).length cd) (.slice Dr (treeL q).length cr) (.slice Ds (sha (frameL q)).length cs5) (.slice Dt (sha (frameL q)).length ct) (.slice Df (frameL q).length cf) (.slice Du (sha (frameL q)).length cu) (.slice Al x cl) (domB [120] q) (treeL q) (sha (frameL q)) (sha (frameL q)) (frameL q) (sha (frameL q)) el q ∧ N ≤ 2000 * x + 800 ∧ os.length ≤ 3 * x + 1) := ⟨_, _, _, _, HR14.out.push ((Fr.refl No w14).alloc _) hm hf ho HWA14.out (by rw [HWL11.out.len]; have := HWN.out; omega) HOK14.out, by have := HNN.out; have := HWN.out; have := HNL.out; omega, by have := HOO.out; simp; omega⟩
                   clear hm hf ho))
              go_meet
              exact HD
          case rest => as_aux_lemma =>
            obtain ⟨ok3, N3, os3, cs3, hR, hN3, hO3⟩ := hcut.out
            obtain ⟨wm, rfl⟩ : ∃ wm : World, wm = wc := ⟨_, rfl⟩
            have HRM := Aside0.mk hR; have HN3 := Aside0.mk hN3; have HO3 := Aside0.mk hO3
            clear hR hN3 hO3 hcut HR9 HOUT
            go_wp2_with fail
            refine (HRM.out.rows_calls (by have := HN3.out; omega) HQL.out (by omega) HQ6.out).mono ?_
            rintro e w11 ⟨rfl, ok4, hB4, h6, hvl, h6b, hvlb⟩
            have HTK := Aside0.mk (six_calls hB4 (by have := HN3.out; omega) h6 h6b HSX.out hvl hvlb)
            clear hB4 h6 hvl h6b hvlb HRM HSX
            go_simp
            iterate 28 (first | go_skip | go_guarded | go_step | go_upon)
            go_guarded
            refine wp_build6 rfl rfl rfl rfl rfl rfl rfl ?_
            simp only [Act.put, List.setIfInBounds_toArray, List.set_cons_succ, List.set_cons_zero]
            go_wp2_with fail
            refine HTK.out.mono ?_
            rintro e w12 ⟨rfl, ok5, hB5, hvl5, hvl5b⟩
            have HB5 := Aside0.mk hB5; have HV5 := Aside0.mk hvl5; have HV5B := Aside0.mk hvl5b
            clear hB5 hvl5 hvl5b HTK
            go_wp2_with (at_builtin; refine app_scalar (enc := slcV) (h1 := fun _ => rfl) (none, 0, 0) w.heap.size rfl (.tmp 195) (.tmp 197) 72 34 (.slice none 0 0) 24 rfl Tryd.underlying72 infoRows rfl (by decide) _ os3 [(Al, x, cl)] _ 1 _ rfl rfl (scalar_fr HB5.out.out.arr ((Fr.refl No w12).alloc _) (fun _ _ => id)) (litO w12 (Al, x, cl)) (by have := HB5.out.fr.size; simp; omega) (by have := HO3.out; omega) ?_
                         intro v1 w13 hm hf ho
                         have HB6 := Aside0.mk (HB5.out.push ((Fr.refl No w12).alloc _) hm hf ho HV5.out (by have := (Kd.own_of_R HV5.out).1; have hle := HEL.out; omega) HV5B.out)
                         clear hm hf ho)
            clear HB5 HV5 HV5B
            refine (mustFrame_calls q x HQL.out A c _ (HRQ.out _ HB6.out.fr) (by omega) (by omega) HQS.out HQO.out).mono ?_
            rintro e w14 ⟨vg, rfl, hm, hf⟩
            have HMG := Aside0.mk hm; have HF14 := Aside0.mk hf
            clear hm hf
            go_wp2_with fail
            refine (partsV_calls HMG.out (by have := HFL.out; omega)).mono ?_
            rw [HPF.out.1, HPF.out.2]
            rintro e w15 ⟨vl2, rfl, hm, hf⟩
            obtain ⟨el2, hel⟩ := hm.lst
            obtain ⟨Al2, cl2, hvl, -, -⟩ := hel.rbs
            rw [HQL.out] at hvl
            subst hvl
            have HL2 := Aside0.mk hel; have HF15 := Aside0.mk (HF14.out.then_ hf); have HZ14 : Aside0 (w13.heap.size ≤ w14.heap.size) := ⟨HF14.out.size⟩
            clear hm hf hel HMG HF14
            go_wp2_with (first
              | (go_at_call 34; refine (numK_calls _ _).mono ?_; rintro e w' ⟨rfl, rfl⟩)
              | (go_at_call 37; refine (sameAllV_calls HL2.out HQL.out (HRQ.out _ (HB6.out.fr.then_ HF15.out))).mono ?_; rintro e w16 ⟨rfl, hf⟩
                 have HB7 := Aside0.mk (HB6.out.frN (HF15.out.then_ hf))
                 have HL7 : Aside0 (Kd.R KV 22 w16 w.heap.size (fun _ => True) (slcV (Al2, x, cl2)) el2) := ⟨scalar_fr (Kd.R_lower HL2.out.arr (by have := HB6.out.fr.size; have := HZ14.out; omega)) hf (fun _ _ => id)⟩
                 clear hf)
              | (at_builtin; refine app_scalar (enc := slcV) (h1 := fun _ => rfl) (none, 0, 0) w.heap.size rfl (.tmp 214) (.tmp 216) 72 34 (.slice none 0 0) 24 rfl Tryd.underlying72 infoRows rfl (by decide) _ (os3 ++ [(Al, x, cl)]) [(Al2, x, cl2)] _ 1 _ rfl rfl (scalar_fr HB7.out.out.arr ((Fr.refl No w16).alloc _) (fun _ _ => id)) (litO w16 (Al2, x, cl2)) (by have := HB7.out.fr.size; simp; omega) (by have := HO3.out; simp; omega) ?_
                 intro v2 w17 hm hf ho
                 have HBN : Aside0 (∃ ok N os cs, BkI w w17 p ok N v2 os cs ∧ N ≤ 2000 * (x + 1) ∧ os.length ≤ 3 * (x + 1)) := ⟨_, _, _, _, HB7.out.push ((Fr.refl No w16).alloc _) hm hf ho HL7.out (by rw [HL2.out.len, HQL.out]; omega) (fun k hk => by
                   have hb := (HL2.out.base (.inl hk)).1
                   refine ⟨fun h2 => ?_, fun h2 => ?_⟩
                   · have := (HB6.out.okb k h2).2; have := HZ14.out; omega
                   · have := (HB6.out.out.lt (.inr h2)).2; have := HZ14.out; omega), by have := HN3.out; omega, by have := HO3.out; simp; omega⟩
                 clear hm hf ho))
            exact ⟨⟨x + 1, by omega, by go_num, HBN, ⟨HOKX.out HQO.out⟩⟩, by simp [intOf]; omega⟩
      · have HQO : Aside0 (frameOk q = false) := ⟨by simpa using hfo⟩
        clear hfo
        go_wp2_with fail
        refine (frameBad_calls q x HQL.out A c _ (HRQ.out _ HF0.out) HQS.out HQO.out).mono ?_
        rintro e w1 ⟨vf, rfl, hf⟩
        have HB1 := Aside0.mk (HBI.out.frN hf)
        clear hf
        go_wp2_with (first
          | (go_at_call 34; refine (numK_calls _ _).mono ?_; rintro e w' ⟨rfl, rfl⟩)
          | (go_at_call 48; refine (HB1.out.still_calls (by have := HNN.out; omega)).mono ?_; rintro e w8 ⟨rfl, hf⟩; have HF8 := Aside0.mk hf; clear hf))
        go_ret
        exact ⟨rfl, HB1.out.fr.then_ HF8.out⟩
    · obtain rfl : x = n + 1 := by omega
      obtain ⟨ok, N, os, cs, hB, hN, hO⟩ := HB.out
      obtain ⟨AO, cO, hvO, -, -⟩ := Kd.R_reads hB.out.arr
      subst hvO
      have HBI := Aside0.mk hB; have HNN := Aside0.mk hN; have HOO := Aside0.mk hO
      have HQK : Aside0 (∀ i, i ≤ n → frameOk (ps.take i) = true) := ⟨fun i hi => HOK.out i (by omega)⟩
      have hxn : ¬ ((n + 1 : Nat) : Int) ≤ (n : Int) := by omega
      obtain ⟨no, hno⟩ : ∃ no, os.length = no := ⟨_, rfl⟩
      have HNO := Aside0.mk hno
      have HG := Aside0.mk (hB.grown_calls rfl (by omega))
      have HN9 : Aside0 (N ≤ 1000000000) := ⟨by omega⟩
      rw [hno] at HG ⊢
      clear hB hN hO HB HOK hno
      generalize n + 1 = m1 at *
      go_wp2_with fail
      refine HG.out.mono ?_
      rintro e w2 ⟨rfl, hf⟩
      have hf' : Fr (OwnD os.length (rowV os)) wr w2 := by rw [HNO.out]; exact hf
      have HS2 := Aside0.mk (HBI.out.still2_calls HN9.out hf')
      have HF2 : Aside0 (Fr No w w2) := ⟨HBI.out.fr.trans hf' (fun k hk => .inr (HBI.out.out.lt (.inr hk)).1)⟩
      clear hf hf' HG
      go_wp2_with fail
      refine HS2.out.mono ?_
      rintro e w3 ⟨rfl, hf⟩
      have HF3 : Aside0 (Fr No w w3) := ⟨HF2.out.then_ hf⟩
      clear hf HS2 HF2
      go_wp2_with fail
      refine (quiet_calls w3 ps n HNP.out A c (HR.out.fr HF3.out) hc hn HQK.out (HT.out.fr HF3.out)).mono ?_
      rintro e w4 ⟨rfl, hf⟩
      have HF4 : Aside0 (Fr No w w4) := ⟨HF3.out.then_ hf⟩
      clear hf HF3
      go_wp2_with fail
      go_ret
      exact ⟨rfl, HF4.out⟩
end Go.Proofs.YtbaeddppihjgfaaDoor.Sg
