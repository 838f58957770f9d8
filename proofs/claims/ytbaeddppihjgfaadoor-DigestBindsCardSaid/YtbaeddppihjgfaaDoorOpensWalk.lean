/- The walk of the law DigestOpens. (Printed by mk_opens.py.) -/
import Derived.Test.YtbaeddppihjgfaaDoorRebuildsWalk
namespace Go.Proofs.YtbaeddppihjgfaaDoor.Sg
open Go Go.RowKit Go.Proofs.YtbaeddppihjgfaaDoorW.PrintWords
set_option linter.unusedVariables false
theorem root_walkN (ls : LL) (M : Nat) (hM : ls.length = M) (h5 : M ≤ 65536) (A : Option Addr) (c : Nat) (w : World) (hr : Rbs w A ls) (hc : M ≤ c) (hl : ∀ l ∈ ls, l.length ≤ 140737488351232) (hK : KAt w) (hF : FirstAt w) :
    Calls Tryd.prog 41 #[.slice A M c] w fun e w' => ∃ v, e = .returned (.tuple #[v, .int .i64 0]) ∧ Mine w' w.heap.size v (bi (treeL ls)) ∧ Fr No w w' := by
  subst hM
  have h := root_walk ls A c w hr hc (by omega) hl hK hF
  have e1 : rootE ls = 0 := if_pos h5
  have e2 : rootB ls = treeL ls := if_pos h5
  rw [e1, e2] at h
  exact h
theorem prove_walkY (ls : LL) (M a : Nat) (hM : ls.length = M) (h5 : M ≤ 65536) (ha : a < M) (A : Option Addr) (c : Nat) (w : World) (hr : Rbs w A ls) (hc : M ≤ c) (hl : ∀ l ∈ ls, l.length ≤ 140737488351232) (hK : KAt w) (hF : FirstAt w) :
    Calls Tryd.prog 43 #[.slice A M c, .int .i64 (a : Int)] w fun e w' => ∃ v, e = .returned (.tuple #[v, .int .i64 0]) ∧ LOwn w' w.heap.size v (wayL ls a) ∧ Fr No w w' := by
  subst hM
  have h := prove_walk ls a A c w hr hc (by omega) hl hK hF
  rw [(prove_yes h5 ha).1, (prove_yes h5 ha).2] at h
  exact h
theorem prove_walkN (ls : LL) (M : Nat) (a : Int) (hM : ls.length = M) (h5 : M ≤ 65536) (ha : ¬ (0 ≤ a ∧ a < (M : Int))) (A : Option Addr) (c : Nat) (w : World) (hr : Rbs w A ls) (hc : M ≤ c) (hl : ∀ l ∈ ls, l.length ≤ 140737488351232) (hK : KAt w) (hF : FirstAt w) :
    Calls Tryd.prog 43 #[.slice A M c, .int .i64 a] w fun e w' => ∃ v, e = .returned (.tuple #[v, .int .i64 32]) ∧ LOwn w' w.heap.size v [] ∧ Fr No w w' := by
  subst hM
  have h := prove_walk ls a A c w hr hc (by omega) hl hK hF
  rw [(prove_no h5 ha).1, (prove_no h5 ha).2] at h
  exact h
theorem same_callsN (a : List UInt8) (n : Nat) (hn : a.length = n) (A B : Option Addr) (c d : Nat) (w : World) (ha : Rb w A a) (hb : Rb w B a) :
    Calls Tryd.prog 23 #[.slice A n c, .slice B n d] w fun e w' => e = .returned (.bool true) ∧ w = w' := by
  subst hn
  exact (same_calls a a A B c d w ha hb).mono fun e w' ⟨he, hw⟩ => ⟨by rw [he, decide_eq_true rfl], hw⟩
theorem way_32 (ls : LL) (a : Nat) (h5 : ls.length ≤ 65536) (ha : a < ls.length) : ∀ p ∈ wayL ls a, p.length = 32 := by
  have h := proveB_32 ls a
  rw [(prove_yes h5 ha).2] at h
  exact h
/-- A leaf with its own way comes to the root. -/
theorem reb_way (ls : LL) (M a : Nat) (hM : ls.length = M) (h5 : M ≤ 65536) (ha : a < M) (l : List UInt8) (hl : ls[a]'(by omega) = l) : rebE a M (wayL ls a) = 0 ∧ rebB l a M (wayL ls a) = treeL ls := by
  subst hM
  subst hl
  have h := reb_good (leaf := ls[a]) (a := a) (n := ls.length) (ps := wayL ls a) (by omega) h5 ha (way_length ls a) (way_32 ls a h5 ha)
  rw [come_way ls a ha] at h
  exact h
set_option maxRecDepth 100000 in
set_option maxHeartbeats 4000000 in
theorem opens_walk (w : World) (ls : LL) (A : Option Addr) (c : Nat) (hr : Rbs w A ls) (hc : ls.length ≤ c) (hn : ls.length ≤ 5864062014634) (hl : ∀ l ∈ ls, l.length ≤ 140737488351232) (hK : KAt w) (hF : FirstAt w) :
    Calls Tryd.prog 14 #[.slice A ls.length c] w fun e w' => e = .returned (.bool true) ∧ Fr No w w' := by
  have HT := Aside0.mk (And.intro hK hF)
  obtain ⟨M, hM⟩ : ∃ M, min 300 ls.length = M := ⟨_, rfl⟩
  have HRM : Aside0 (Rbs w A (ls.take M)) := ⟨Rbs_take hr M (by omega)⟩
  have HML : Aside0 ((ls.take M).length = M) := ⟨by rw [List.length_take]; omega⟩
  have HLM : Aside0 (∀ l ∈ ls.take M, l.length ≤ 140737488351232) := ⟨fun l h => hl l (List.mem_of_mem_take h)⟩
  have HM0 := Aside0.mk hM
  have hM3 : M ≤ 300 := by omega
  have hMc : M ≤ c := by omega
  clear hr hl hK hF hM
  generalize ls.take M = ms at *
  go_enter Tryd.func14, Tryd.ntmps14
  go_wp2_with fail
  have hrw := nil_rows w
  have hfa : Fr No w (w.alloc (.cells #[.slice none 0 0] 22)) := (Fr.refl No w).alloc _
  generalize w.alloc (.cells #[.slice none 0 0] 22) = W at hrw hfa ⊢
  have HRW := Aside0.mk hrw
  have HF := Aside0.mk hfa
  clear hrw hfa
  refine (root_walkN [[]] 1 rfl (by decide) _ 1 W HRW.out (by decide) (by simp) (HT.out.1.fr HF.out id) (HT.out.2.fr HF.out id)).mono ?_
  rintro e w3 ⟨v, rfl, hm, hf⟩
  replace HF := Aside0.mk (HF.out.then_ hf)
  rw [tree_one] at hm
  obtain ⟨O, co, rfl, hco, hro⟩ := hm.reads
  have HO := Aside0.mk hro
  have HZH := Aside0.mk one_hex
  have HZN := Aside0.mk (sha_length [0])
  clear hm hf hro hco HRW
  generalize sha [0] = z at *
  go_wp2_with fail
  refine (numR_calls _ _).mono ?_
  rintro e w4 ⟨rfl, rfl⟩
  go_wp2_with fail
  refine (refHex_calls z O co w3 HO.out (by rw [HZN.out]; decide)).mono ?_
  rintro e w4 ⟨rfl, hf⟩
  replace HF := Aside0.mk (HF.out.then_ hf)
  replace HO := Aside0.mk (C_fr HO.out hf)
  rw [HZH.out]
  unfold roHex
  clear hf
  clear HO
  go_upto_if 29 with fail
  go_cut [0] (fun s0 wx => wx = w4 ∧ s0 = .slice A M c)
  case first =>
    by_cases h300 : 300 < ls.length
    · have hM2 : M = 300 := by have := HM0.out; omega
      go_wp2_with fail
      go_meet
      exact ⟨rfl, by rw [hM2]⟩
    · have hM2 : M = ls.length := by have := HM0.out; omega
      go_wp2_with fail
      go_meet
      exact ⟨rfl, by rw [hM2]⟩
  case rest =>
    obtain ⟨hwc, rfl⟩ := hcut
    rw [hwc]
    clear hwc
    go_wp2_with fail
    refine (root_walkN ms M HML.out (by omega) A c w4 (HRM.out.fr HF.out) hMc HLM.out (HT.out.1.fr HF.out id) (HT.out.2.fr HF.out id)).mono ?_
    rintro e w5 ⟨v, rfl, hm, hf⟩
    replace HF := Aside0.mk (HF.out.then_ hf)
    obtain ⟨X, cx, rfl, hcx, hrx⟩ := hm.reads
    have HX := Aside0.mk hrx
    rw [tree_length] at hcx ⊢
    have HTL := Aside0.mk (tree_length ms)
    clear hm hf hrx hcx
    go_wp2_with fail
    refine (numR_calls _ _).mono ?_
    rintro e w6 ⟨rfl, rfl⟩
    go_wp2_with fail
    go_loopw [7] (fun i wr => ∃ k : Nat, k ≤ M ∧ i = .int .i64 k ∧ Aside0 (Rb wr X (treeL ms)) ∧ Aside0 (Fr No w wr)) (fun i _ => M - (intOf i).toNat)
    case atStart => exact ⟨0, by omega, rfl, HX, HF⟩
    case round =>
      clear HX HF
      obtain ⟨k, hk, rfl, HX, HF⟩ := hrel
      by_cases hlt : k < M
      · obtain ⟨ad, Ai, ci, hA, hc0, hci, hrb⟩ := HRM.out.at_ k (by rw [HML.out]; exact hlt)
        subst hA
        have HW := Aside0.mk (fun l h => reb_way ms M k HML.out (by omega) hlt l h)
        have HS32 := Aside0.mk (way_32 ms k (by rw [HML.out]; omega) (by rw [HML.out]; exact hlt))
        have HWL : Aside0 ((wayL ms k).length = stepsN k M) := ⟨by rw [way_length, HML.out]⟩
        have HSL := Aside0.mk (steps_lt M k (by omega))
        have hsm := HLM.out _ (List.getElem_mem (show k < ms.length by rw [HML.out]; exact hlt))
        have HLK : Aside0 (ms[k]'(by rw [HML.out]; exact hlt) = ms[k]'(by rw [HML.out]; exact hlt)) := ⟨rfl⟩
        generalize hlk : ms[k]'(by rw [HML.out]; exact hlt) = lk at *
        have HWK := Aside0.mk (HW.out lk rfl)
        have HC0 := Aside0.mk hc0
        have HRB := Aside0.mk hrb
        clear hlk HLK HW hc0 hrb
        go_wp2_with fail
        refine (prove_walkY ms M k HML.out (by omega) hlt _ c wr (HRM.out.fr HF.out) hMc HLM.out (HT.out.1.fr HF.out id) (HT.out.2.fr HF.out id)).mono ?_
        rintro e w6 ⟨v, rfl, hm, hf⟩
        replace HF := Aside0.mk (HF.out.then_ hf)
        replace HX := Aside0.mk (C_fr HX.out hf)
        obtain ⟨U, cu, rfl, hcu, hru⟩ := hm.reads
        have HU := Aside0.mk hru
        rw [HWL.out] at hcu ⊢
        have hcell := HF.out.cell HC0.out id
        clear hm hf hru
        generalize hwl : wayL ms k = wl at *
        have HWX := Aside0.mk hwl
        generalize hst : stepsN k M = st at *
        have HST := Aside0.mk hst
        have hst5 : st ≤ 300 := by have := HSL.out; omega
        clear hwl hst
        go_wp2_with fail
        refine (rebuild_walkN lk _ st rfl hsm wl HWL.out Ai U ci cu (k : Int) (M : Int) w6 (C_fr HRB.out HF.out) hci HU.out (by rw [HWL.out]; omega) (fun l hl => by rw [HS32.out l hl]; decide) (HT.out.1.fr HF.out id) (HT.out.2.fr HF.out id)).mono ?_
        rintro e w7 ⟨v, rfl, hm, hf⟩
        replace HF := Aside0.mk (HF.out.then_ hf)
        replace HX := Aside0.mk (C_fr HX.out hf)
        replace HU := Aside0.mk (HU.out.fr hf)
        rw [HWK.out.2] at hm
        rw [HWK.out.1]
        obtain ⟨Y, cy, rfl, hcy, hry⟩ := hm.reads
        have HY := Aside0.mk hry
        rw [tree_length] at hcy ⊢
        clear hm hf hry hcy hcell
        go_wp2_with fail
        refine (numR_calls _ _).mono ?_
        rintro e w8 ⟨rfl, rfl⟩
        go_wp2_with fail
        refine (numR_calls _ _).mono ?_
        rintro e w8 ⟨rfl, rfl⟩
        go_wp2_with fail
        refine (same_callsN (treeL ms) 32 HTL.out _ _ _ _ w7 HY.out HX.out).mono ?_
        rintro e w8 ⟨rfl, rfl⟩
        go_wp2_with fail
        refine (steps_calls M k w7 (by omega) (by omega)).mono ?_
        rintro e w8 ⟨rfl, rfl⟩
        rw [HST.out]
        have hss : ((st : Int) == (st : Int)) = true := beq_self_eq_true _
        go_wp2_with fail
        exact ⟨⟨k + 1, by omega, by go_num, HX, HF⟩, by simp [intOf]; omega⟩
      · obtain rfl : k = M := by omega
        go_wp2_with fail
        refine (prove_walkN ms k (k : Int) HML.out (by omega) (by omega) A c wr (HRM.out.fr HF.out) hMc HLM.out (HT.out.1.fr HF.out id) (HT.out.2.fr HF.out id)).mono ?_
        rintro e w6 ⟨v, rfl, hm, hf⟩
        replace HF := Aside0.mk (HF.out.then_ hf)
        replace HX := Aside0.mk (C_fr HX.out hf)
        obtain ⟨U, cu, rfl, hcu, hru⟩ := hm.reads
        clear hm hf hru hcu
        go_wp2_with fail
        refine (numR_calls _ _).mono ?_
        rintro e w7 ⟨rfl, rfl⟩
        go_wp2_with fail
        go_ret
        exact ⟨by simp, HF.out⟩
end Go.Proofs.YtbaeddppihjgfaaDoor.Sg
