/- The walks of the program's Root and Prove, and of the reference's way and Prove. -/
import Derived.Laws.EntriesVeiled
import Derived.Test.YtbaeddppihjgfaaDoorTreeProve
namespace Go.Proofs.YtbaeddppihjgfaaDoor.Sg
open Go Go.RowKit Go.Proofs.YtbaeddppihjgfaaDoorW.PrintWords
set_option linter.unusedVariables false
theorem root_walk (ls : LL) (A : Option Addr) (c : Nat) (w : World) (hr : Rbs w A ls) (hc : ls.length ≤ c) (hn : ls.length ≤ 5864062014634) (hl : ∀ l ∈ ls, l.length ≤ 140737488351232) (hK : KAt w) (hF : FirstAt w) :
    Calls Tryd.prog 41 #[.slice A ls.length c] w fun e w' => ∃ v, e = .returned (.tuple #[v, .int .i64 (rootE ls)]) ∧ Mine w' w.heap.size v (bi (rootB ls)) ∧ Fr No w w' := by
  have HR := Aside0.mk hr; have HL := Aside0.mk hl; have HT := Aside0.mk (And.intro hK hF)
  clear hr hl hK hF
  go_enter Tryd.func41, Tryd.ntmps41
  by_cases h : ls.length ≤ 65536
  · have HE : Aside0 (rootE ls = 0 ∧ rootB ls = treeL ls) := ⟨by unfold rootE rootB; rw [if_pos h, if_pos h]; exact ⟨rfl, rfl⟩⟩
    go_wp2_with fail
    refine (root_calls ls.length ls A c w rfl HR.out hc (by omega) HL.out HT.out.1 HT.out.2).mono ?_
    rintro e w2 ⟨v, rfl, hm, hf⟩
    have HM := Aside0.mk hm; have HF := Aside0.mk hf
    clear hm hf
    go_wp2_with fail
    go_ret2
    exact ⟨v, by rw [HE.out.1]; rfl, by rw [HE.out.2]; exact HM.out, HF.out⟩
  · have HE : Aside0 (rootE ls = 2 ∧ rootB ls = []) := ⟨by unfold rootE rootB; rw [if_neg h, if_neg h]; exact ⟨rfl, rfl⟩⟩
    go_wp2_with fail
    go_ret2
    exact ⟨.slice none 0 0, by rw [HE.out.1]; rfl, by rw [HE.out.2]; exact Mine.nil _ _, Fr.refl _ _⟩
/-- What Prove answers. -/
def proveB (ls : LL) (a : Int) : LL := if ls.length ≤ 65536 ∧ 0 ≤ a ∧ a < ls.length then wayL ls a.toNat else []
def proveE (ls : LL) (a : Int) : Int := if ls.length ≤ 65536 then (if 0 ≤ a ∧ a < ls.length then 0 else 32) else 2
theorem prove_yes {ls : LL} {a : Nat} (h : ls.length ≤ 65536) (ha : a < ls.length) : proveE ls a = 0 ∧ proveB ls a = wayL ls a := by
  unfold proveE proveB
  rw [if_pos h, if_pos (by omega), if_pos (by omega)]
  exact ⟨rfl, rfl⟩
theorem prove_no {ls : LL} {a : Int} (h : ls.length ≤ 65536) (ha : ¬ (0 ≤ a ∧ a < ls.length)) : proveE ls a = 32 ∧ proveB ls a = [] := by
  unfold proveE proveB
  rw [if_pos h, if_neg ha, if_neg (fun h2 => ha h2.2)]
  exact ⟨rfl, rfl⟩
theorem prove_long {ls : LL} {a : Int} (h : ¬ ls.length ≤ 65536) : proveE ls a = 2 ∧ proveB ls a = [] := by
  unfold proveE proveB
  rw [if_neg h, if_neg (fun h2 => h h2.1)]
  exact ⟨rfl, rfl⟩
set_option maxRecDepth 100000 in
set_option maxHeartbeats 4000000 in
theorem prove_walk (ls : LL) (a : Int) (A : Option Addr) (c : Nat) (w : World) (hr : Rbs w A ls) (hc : ls.length ≤ c) (hn : ls.length ≤ 5864062014634) (hl : ∀ l ∈ ls, l.length ≤ 140737488351232) (hK : KAt w) (hF : FirstAt w) :
    Calls Tryd.prog 43 #[.slice A ls.length c, .int .i64 a] w fun e w' => ∃ v, e = .returned (.tuple #[v, .int .i64 (proveE ls a)]) ∧ LOwn w' w.heap.size v (proveB ls a) ∧ Fr No w w' := by
  have HR := Aside0.mk hr; have HL := Aside0.mk hl; have HT := Aside0.mk (And.intro hK hF)
  clear hr hl hK hF
  by_cases h : ls.length ≤ 65536
  · by_cases ha : 0 ≤ a ∧ a < ls.length
    · obtain ⟨ha0, ha1⟩ := ha
      obtain ⟨p, rfl⟩ : ∃ p : Nat, a = (p : Int) := ⟨a.toNat, by omega⟩
      have HE := Aside0.mk (prove_yes h (show p < ls.length by omega))
      have HCB : Aside0 ((w.alloc (.cells #[wayFn w.heap.size] 96)).cell? ⟨w.heap.size, 0, none⟩ = some (wayFn w.heap.size)) := ⟨new_cell w _ _⟩
      have HF1 : Aside0 (Fr No w (w.alloc (.cells #[wayFn w.heap.size] 96))) := ⟨(Fr.refl No w).alloc _⟩
      go_enter Tryd.func43, Tryd.ntmps43
      go_wp2_with fail
      refine (wayF_calls ls.length ls A c p w.heap.size _ rfl (HR.out.fr HF1.out) hc (by omega) hn (by omega) HL.out (HT.out.1.fr HF1.out id) (HT.out.2.fr HF1.out id) HCB.out).mono ?_
      rintro e w2 ⟨v, rfl, hm, hf⟩
      have HM : Aside0 (LOwn w2 w.heap.size v (wayL ls p)) := ⟨hm.lower HF1.out.size⟩
      have HF := Aside0.mk (HF1.out.then_ hf)
      clear hm hf
      go_wp2_with fail
      go_ret2
      exact ⟨v, by rw [HE.out.1]; rfl, by rw [HE.out.2]; exact HM.out, HF.out⟩
    · have HE := Aside0.mk (prove_no h ha)
      have HX := Aside0.mk ha
      clear ha
      go_enter Tryd.func43, Tryd.ntmps43
      by_cases h0 : a < 0
      · go_wp2_with fail
        go_ret2
        exact ⟨.slice none 0 0, by rw [HE.out.1]; rfl, by rw [HE.out.2]; exact LOwn.nil _ _, Fr.refl _ _⟩
      · have h1 : (ls.length : Int) ≤ a := by have := HX.out; omega
        go_wp2_with fail
        go_ret2
        exact ⟨.slice none 0 0, by rw [HE.out.1]; rfl, by rw [HE.out.2]; exact LOwn.nil _ _, Fr.refl _ _⟩
  · have HE := Aside0.mk (prove_long (a := a) h)
    go_enter Tryd.func43, Tryd.ntmps43
    go_wp2_with fail
    go_ret2
    exact ⟨.slice none 0 0, by rw [HE.out.1]; rfl, by rw [HE.out.2]; exact LOwn.nil _ _, Fr.refl _ _⟩
set_option maxRecDepth 100000 in
set_option maxHeartbeats 4000000 in
theorem refWay_calls (N : Nat) : ∀ (ls : LL) (A : Option Addr) (c a : Nat) (w : World), ls.length = N → Rbs w A ls → N ≤ c → N ≤ 5864062014634 → a ≤ 140737488355328 → (∀ l ∈ ls, l.length ≤ 140737488351232) → KeysAt w →
    Calls Tryd.prog 64 #[.slice A N c, .int .i64 (a : Int)] w fun e w' => ∃ v, e = .returned v ∧ LOwn w' w.heap.size v (wayL ls a) ∧ Fr No w w' := by
  induction N using Nat.strongRecOn with
  | _ N ih =>
  intro ls A c a w hN hr hc hn ha hl hK
  have HR := Aside0.mk hr; have HL := Aside0.mk hl; have HT := Aside0.mk hK; have IH := Aside0.mk ih; have HN := Aside0.mk hN
  clear hr hl hK ih hN
  go_enter Tryd.func64, Tryd.ntmps64
  by_cases h1 : N < 2
  · have he := Aside0.mk (way_few ls a (by rw [HN.out]; omega))
    go_wp2_with fail
    go_ret
    exact ⟨.slice none 0 0, rfl, by rw [he.out]; exact LOwn.nil _ _, Fr.refl _ _⟩
  go_wp2_with fail
  refine (cut_calls N (by omega) (by omega) w).mono ?_
  rintro e w2 ⟨rfl, rfl⟩
  have hk1 := cut_pos N
  have hk2 := cut_lt (n := N) (by omega)
  have HW1 := Aside0.mk (way_left ls a (by rw [HN.out]; omega))
  have HW2 := Aside0.mk (way_right ls a (by rw [HN.out]; omega))
  rw [HN.out] at HW1 HW2
  have HWN : Aside0 ((wayL ls a).length < N) := ⟨by rw [way_length, HN.out]; exact steps_lt N a (by omega)⟩
  generalize cutN N = k at *
  obtain ⟨ad, hA⟩ : ∃ ad, A = some ad := by
    obtain ⟨ad, _, _, hA, _⟩ := HR.out.at_ 0 (by rw [HN.out]; omega)
    exact ⟨ad, hA⟩
  subst hA
  have HRS : Aside0 (∀ W, Fr No w W → Rbs W (some ad) (ls.take k) ∧ Rbs W (some (ad.add k)) (ls.drop k)) := ⟨fun W hg => ⟨Rbs_take (HR.out.fr hg) k (by rw [HN.out]; omega), by
    have h := Rbs_drop (c := c) (HR.out.fr hg) k (by rw [HN.out]; omega) (by rw [HN.out]; omega)
    rw [if_neg (by omega)] at h
    exact h⟩⟩
  have hc2 : ¬ c = k := by omega
  have hnc : (k : Int) ≤ (N : Int) := by omega
  have hkc : k ≤ c := by omega
  by_cases hlt : a < k
  · have HWE := Aside0.mk (HW1.out hlt)
    have HWM : Aside0 ((wayL (ls.take k) a).length ≤ 5864062014634) := ⟨by have := HWN.out; rw [HWE.out, List.length_append] at this; omega⟩
    clear HW1 HW2 HWN
    go_wp2_with fail
    refine (IH.out k hk2 (ls.take k) _ _ a w (by rw [List.length_take, HN.out]; omega) (HRS.out w (Fr.refl _ _)).1 (by omega) (by omega) (by omega) (fun l h => HL.out l (List.mem_of_mem_take h)) HT.out).mono ?_
    rintro e w3 ⟨v, rfl, hm, hf⟩
    have HM := Aside0.mk hm; have HF := Aside0.mk hf
    clear hm hf
    go_wp2_with fail
    refine (over_calls (N - k) (ls.drop k) _ _ w3 (by rw [List.length_drop, HN.out]) (HRS.out w3 HF.out).2 (by omega) (by omega) (fun l h => HL.out l (List.mem_of_mem_drop h)) (HT.out.fr HF.out id)).mono ?_
    rintro e w4 ⟨u, rfl, hm, hf⟩
    obtain ⟨X, cx, rfl, hcx, hrx⟩ := hm.reads
    rw [tree_length] at hcx hm ⊢
    have HU := Aside0.mk hm; have HF2 := Aside0.mk (HF.out.then_ hf); have HF3 := Aside0.mk hf
    have HSZ := Aside0.mk HF.out.size
    clear hm hf hrx
    go_wp2_with (at_builtin; refine app_list (w0 := w) (W0 := w3) rfl (.tmp 28) (.tmp 30) 34 rfl Tryd.underlying34 infoRow v (.slice X 32 cx) (wayL (ls.take k) a) (treeL (ls.drop k)) rfl rfl HM.out HF3.out HU.out HSZ.out HF2.out HWM.out ?_; intro v1 w1 hl1 hf1)
    go_wp2_with fail
    go_ret
    exact ⟨v1, rfl, by rw [HWE.out]; exact hl1, hf1⟩
  · obtain ⟨q, hq⟩ : ∃ q, a - k = q := ⟨_, rfl⟩
    have hqi : (a : Int) - (k : Int) = (q : Int) := by omega
    have HWE := Aside0.mk (HW2.out hlt)
    rw [hq] at HWE
    have hq2 : q ≤ 140737488355328 := by omega
    have HWM : Aside0 ((wayL (ls.drop k) q).length ≤ 5864062014634) := ⟨by have := HWN.out; rw [HWE.out, List.length_append] at this; omega⟩
    clear HW1 HW2 HWN hq
    go_wp2_with fail
    refine (IH.out (N - k) (by omega) (ls.drop k) _ _ q w (by rw [List.length_drop, HN.out]) (HRS.out w (Fr.refl _ _)).2 (by omega) (by omega) (by omega) (fun l h => HL.out l (List.mem_of_mem_drop h)) HT.out).mono ?_
    rintro e w3 ⟨v, rfl, hm, hf⟩
    have HM := Aside0.mk hm; have HF := Aside0.mk hf
    clear hm hf
    go_wp2_with fail
    refine (over_calls k (ls.take k) _ _ w3 (by rw [List.length_take, HN.out]; omega) (HRS.out w3 HF.out).1 (by omega) (by omega) (fun l h => HL.out l (List.mem_of_mem_take h)) (HT.out.fr HF.out id)).mono ?_
    rintro e w4 ⟨u, rfl, hm, hf⟩
    obtain ⟨X, cx, rfl, hcx, hrx⟩ := hm.reads
    rw [tree_length] at hcx hm ⊢
    have HU := Aside0.mk hm; have HF2 := Aside0.mk (HF.out.then_ hf); have HF3 := Aside0.mk hf
    have HSZ := Aside0.mk HF.out.size
    clear hm hf hrx
    go_wp2_with (at_builtin; refine app_list (w0 := w) (W0 := w3) rfl (.tmp 43) (.tmp 45) 34 rfl Tryd.underlying34 infoRow v (.slice X 32 cx) (wayL (ls.drop k) q) (treeL (ls.take k)) rfl rfl HM.out HF3.out HU.out HSZ.out HF2.out HWM.out ?_; intro v1 w1 hl1 hf1)
    go_wp2_with fail
    go_ret
    exact ⟨v1, rfl, by rw [HWE.out]; exact hl1, hf1⟩
set_option maxRecDepth 100000 in
set_option maxHeartbeats 4000000 in
theorem refProve_calls (ls : LL) (a : Int) (A : Option Addr) (c : Nat) (w : World) (hr : Rbs w A ls) (hc : ls.length ≤ c) (hn : ls.length ≤ 5864062014634) (hl : ∀ l ∈ ls, l.length ≤ 140737488351232) (hK : KeysAt w) :
    Calls Tryd.prog 40 #[.slice A ls.length c, .int .i64 a] w fun e w' => ∃ v, e = .returned (.tuple #[v, .int .i64 (proveE ls a)]) ∧ LOwn w' w.heap.size v (proveB ls a) ∧ Fr No w w' := by
  have HR := Aside0.mk hr; have HL := Aside0.mk hl; have HT := Aside0.mk hK
  clear hr hl hK
  by_cases h : ls.length ≤ 65536
  · by_cases ha : 0 ≤ a ∧ a < ls.length
    · obtain ⟨ha0, ha1⟩ := ha
      obtain ⟨p, rfl⟩ : ∃ p : Nat, a = (p : Int) := ⟨a.toNat, by omega⟩
      have HE := Aside0.mk (prove_yes h (show p < ls.length by omega))
      go_enter Tryd.func40, Tryd.ntmps40
      go_wp2_with fail
      refine (refWay_calls ls.length ls A c p w rfl HR.out hc hn (by omega) HL.out HT.out).mono ?_
      rintro e w2 ⟨v, rfl, hm, hf⟩
      have HM := Aside0.mk hm
      have HF := Aside0.mk hf
      clear hm hf
      go_wp2_with fail
      go_ret2
      exact ⟨v, by rw [HE.out.1]; rfl, by rw [HE.out.2]; exact HM.out, HF.out⟩
    · have HE := Aside0.mk (prove_no h ha)
      have HX := Aside0.mk ha
      clear ha
      go_enter Tryd.func40, Tryd.ntmps40
      by_cases h0 : a < 0
      · go_wp2_with fail
        go_ret2
        exact ⟨.slice none 0 0, by rw [HE.out.1]; rfl, by rw [HE.out.2]; exact LOwn.nil _ _, Fr.refl _ _⟩
      · have h1 : (ls.length : Int) ≤ a := by have := HX.out; omega
        go_wp2_with fail
        go_ret2
        exact ⟨.slice none 0 0, by rw [HE.out.1]; rfl, by rw [HE.out.2]; exact LOwn.nil _ _, Fr.refl _ _⟩
  · have HE := Aside0.mk (prove_long (a := a) h)
    go_enter Tryd.func40, Tryd.ntmps40
    go_wp2_with fail
    go_ret2
    exact ⟨.slice none 0 0, by rw [HE.out.1]; rfl, by rw [HE.out.2]; exact LOwn.nil _ _, Fr.refl _ _⟩
end Go.Proofs.YtbaeddppihjgfaaDoor.Sg
namespace Go.Proofs.YtbaeddppihjgfaaDoor.Sg
open Go Go.RowKit Go.Proofs.YtbaeddppihjgfaaDoorW.PrintWords
set_option linter.unusedVariables false
set_option maxRecDepth 100000 in
set_option maxHeartbeats 4000000 in
theorem come_calls (leaf : List UInt8) (hleaf : leaf.length ≤ 140737488351232) (N : Nat) : ∀ (ps : LL) (M : Nat) (A B : Option Addr) (ca cb a : Nat) (w : World), ps.length = M → M = stepsN a N → Rb w A leaf → Rbs w B ps → M ≤ cb → N ≤ 5864062014634 → a ≤ 140737488355328 → (∀ p ∈ ps, p.length = 32) → KeysAt w →
    Calls Tryd.prog 63 #[.slice A leaf.length ca, .int .i64 (a : Int), .int .i64 (N : Int), .slice B M cb] w fun e w' => ∃ v, e = .returned v ∧ Mine w' w.heap.size v (bi (comeL leaf a N ps)) ∧ Fr No w w' := by
  induction N using Nat.strongRecOn with
  | _ N ih =>
  intro ps M A B ca cb a w hM hMs hrl hr hc hn ha hl hK
  have HRL := Aside0.mk hrl; have HR := Aside0.mk hr; have HL := Aside0.mk hl; have HT := Aside0.mk hK; have IH := Aside0.mk ih; have HM := Aside0.mk hM; have HMS := Aside0.mk hMs
  clear hrl hr hl hK ih hM hMs
  go_enter Tryd.func63, Tryd.ntmps63
  by_cases h2 : N < 2
  · have HE := Aside0.mk (come_few leaf a N ps h2)
    have h2i : (N : Int) < 2 := by omega
    go_wp2_with fail
    refine (joined_callsN 0 0 rfl leaf [] _ none leaf.length 0 ca 0 rfl rfl w HRL.out (Rb_none w) (by simp; omega)).mono ?_
    rintro e w2 ⟨v, rfl, hm, hf⟩
    obtain ⟨D, cd, rfl, hcd, hrd⟩ := hm.reads
    have HD := Aside0.mk hrd; have HF := Aside0.mk hf
    clear hm hf hrd
    have HLN : Aside0 ((0 :: (leaf ++ []) : List UInt8).length ≤ 140737488352256) := ⟨by simp; omega⟩
    generalize hj : (0 :: (leaf ++ []) : List UInt8) = j at *
    have HJ := Aside0.mk hj
    clear hj
    go_wp2_with fail
    refine (refSum_callsN j _ rfl D cd w2 HD.out HLN.out (HT.out.fr HF.out id)).mono ?_
    rintro e w3 ⟨v, rfl, hm, hf⟩
    go_wp2_with fail
    go_ret
    exact ⟨v, rfl, by rw [HE.out]; rw [← HJ.out, List.append_nil] at hm; exact hm.lower HF.out.size, HF.out.then_ hf⟩
  have h2i : ¬ (N : Int) < 2 := by omega
  go_wp2_with fail
  refine (cut_calls N (by omega) (by omega) w).mono ?_
  rintro e w2 ⟨rfl, rfl⟩
  have hk1 := cut_pos N
  have hk2 := cut_lt (n := N) (by omega)
  have HS1 := Aside0.mk (steps_left a N (by omega))
  have HS2 := Aside0.mk (steps_right a N (by omega))
  have HC1 := Aside0.mk (come_left leaf a N (h := by omega))
  have HC2 := Aside0.mk (come_right leaf a N (h := by omega))
  have HSB : Aside0 (stepsN a N < N) := ⟨steps_lt N a (by omega)⟩
  generalize cutN N = k at *
  obtain ⟨n, hn1⟩ : ∃ n, M = n + 1 := by
    by_cases hlt : a < k
    · exact ⟨stepsN a k, by rw [HMS.out, HS1.out hlt, Nat.add_comm]⟩
    · exact ⟨stepsN (a - k) (N - k), by rw [HMS.out, HS2.out hlt, Nat.add_comm]⟩
  subst hn1
  have hnN : n + 1 ≤ 5864062014634 := by have := HMS.out; have := HSB.out; omega
  have HPS : Aside0 (ps = ps.take n ++ [ps[n]'(by rw [HM.out]; omega)]) := ⟨by rw [← List.take_succ_eq_append_getElem (by rw [HM.out]; omega), List.take_of_length_le (by rw [HM.out]; omega)]⟩
  obtain ⟨ad, Ai, ci, hA, hcell, hci, hrb⟩ := HR.out.at_ n (by rw [HM.out]; omega)
  subst hA
  have hp32 := HL.out _ (List.getElem_mem (show n < ps.length by rw [HM.out]; omega))
  have HRB := Aside0.mk hrb
  have HCL := Aside0.mk hcell
  have HTL : Aside0 ((ps.take n).length = n) := ⟨by rw [List.length_take, HM.out]; omega⟩
  have HRT : Aside0 (∀ W, Fr No w W → Rbs W (some ad) (ps.take n)) := ⟨fun W hg => Rbs_take (HR.out.fr hg) n (by rw [HM.out]; omega)⟩
  have HLT : Aside0 (∀ p ∈ ps.take n, p.length = 32) := ⟨fun p hp => HL.out p (List.mem_of_mem_take hp)⟩
  have HPP : Aside0 (comeL leaf a N ps = comeL leaf a N (ps.take n ++ [ps[n]'(by rw [HM.out]; omega)])) := ⟨by rw [← HPS.out]⟩
  generalize ps[n]'(by rw [HM.out]; omega) = p at *
  generalize ps.take n = pt at *
  clear hcell hrb hci
  have hncb : n ≤ cb := by omega
  by_cases hlt : a < k
  · have HSN : Aside0 (n = stepsN a k) := ⟨by have := HMS.out; rw [HS1.out hlt] at this; omega⟩
    have HCC : Aside0 (comeL leaf a N ps = sha (1 :: (comeL leaf a k pt ++ p))) := ⟨by rw [HPP.out, HC1.out pt p hlt (by rw [HTL.out]; exact HSN.out)]⟩
    clear HC1 HC2 HS1 HS2 HPP
    go_wp2_with fail
    refine (IH.out k hk2 pt n _ _ ca cb a w HTL.out HSN.out HRL.out (HRT.out w (Fr.refl _ _)) (by omega) (by omega) ha HLT.out HT.out).mono ?_
    rintro e w3 ⟨v, rfl, hm, hf⟩
    obtain ⟨X, cx, rfl, hcx, hrx⟩ := hm.reads
    have HX := Aside0.mk hrx; have HF := Aside0.mk hf
    have hcell := hf.cell HCL.out id
    rw [hp32] at hcell
    rw [comeL_length] at hcx ⊢
    clear hm hf hrx
    go_wp2_with fail
    refine (joined_callsN 1 1 rfl (comeL leaf a k pt) p _ _ 32 32 cx ci (comeL_length _ _ _ _) hp32 w3 HX.out (C_fr HRB.out HF.out) (by rw [comeL_length, hp32]; decide)).mono ?_
    rintro e w4 ⟨v, rfl, hm, hf⟩
    obtain ⟨Z, cz, rfl, hcz, hrz⟩ := hm.reads
    have HZ := Aside0.mk hrz; have HF3 := Aside0.mk (HF.out.then_ hf)
    have HJL : Aside0 ((1 :: (comeL leaf a k pt ++ p) : List UInt8).length ≤ 140737488352256) := ⟨by rw [List.length_cons, List.length_append, comeL_length, hp32]; decide⟩
    clear hm hf hrz HX HF hcell
    generalize hj : (1 :: (comeL leaf a k pt ++ p) : List UInt8) = j at *
    clear hj
    go_wp2_with fail
    refine (refSum_callsN j _ rfl Z cz w4 HZ.out HJL.out (HT.out.fr HF3.out id)).mono ?_
    rintro e w6 ⟨v, rfl, hm, hf⟩
    go_wp2_with fail
    go_ret
    exact ⟨v, rfl, by rw [HCC.out]; exact hm.lower HF3.out.size, HF3.out.then_ hf⟩
  · obtain ⟨q, hq⟩ : ∃ q, a - k = q := ⟨_, rfl⟩
    obtain ⟨r, hr⟩ : ∃ r, N - k = r := ⟨_, rfl⟩
    have hqi : (a : Int) - (k : Int) = (q : Int) := by omega
    have hri : (N : Int) - (k : Int) = (r : Int) := by omega
    have HSN : Aside0 (n = stepsN q r) := ⟨by have := HMS.out; rw [HS2.out hlt, hq, hr] at this; omega⟩
    have HCC : Aside0 (comeL leaf a N ps = sha (1 :: (p ++ comeL leaf q r pt))) := ⟨by rw [HPP.out, HC2.out pt p hlt (by rw [HTL.out, hq, hr]; exact HSN.out), hq, hr]⟩
    have hrN : r < N := by omega
    have hq2 : q ≤ 140737488355328 := by omega
    clear HC1 HC2 HS1 HS2 HPP hq hr
    go_wp2_with fail
    refine (IH.out r hrN pt n _ _ ca cb q w HTL.out HSN.out HRL.out (HRT.out w (Fr.refl _ _)) (by omega) (by omega) hq2 HLT.out HT.out).mono ?_
    rintro e w3 ⟨v, rfl, hm, hf⟩
    obtain ⟨X, cx, rfl, hcx, hrx⟩ := hm.reads
    have HX := Aside0.mk hrx; have HF := Aside0.mk hf
    have hcell := hf.cell HCL.out id
    rw [hp32] at hcell
    rw [comeL_length] at hcx ⊢
    clear hm hf hrx
    go_wp2_with fail
    refine (joined_callsN 1 1 rfl p (comeL leaf q r pt) _ _ 32 32 ci cx hp32 (comeL_length _ _ _ _) w3 (C_fr HRB.out HF.out) HX.out (by rw [comeL_length, hp32]; decide)).mono ?_
    rintro e w4 ⟨v, rfl, hm, hf⟩
    obtain ⟨Z, cz, rfl, hcz, hrz⟩ := hm.reads
    have HZ := Aside0.mk hrz; have HF3 := Aside0.mk (HF.out.then_ hf)
    have HJL : Aside0 ((1 :: (p ++ comeL leaf q r pt) : List UInt8).length ≤ 140737488352256) := ⟨by rw [List.length_cons, List.length_append, comeL_length, hp32]; decide⟩
    clear hm hf hrz HX HF hcell
    generalize hj : (1 :: (p ++ comeL leaf q r pt) : List UInt8) = j at *
    clear hj
    go_wp2_with fail
    refine (refSum_callsN j _ rfl Z cz w4 HZ.out HJL.out (HT.out.fr HF3.out id)).mono ?_
    rintro e w6 ⟨v, rfl, hm, hf⟩
    go_wp2_with fail
    go_ret
    exact ⟨v, rfl, by rw [HCC.out]; exact hm.lower HF3.out.size, HF3.out.then_ hf⟩
/-- What Rebuild answers. -/
def rebOk (a n : Int) (ps : LL) : Bool := decide (1 ≤ n ∧ n ≤ 65536 ∧ 0 ≤ a ∧ a < n) && (decide (ps.length = stepsN a.toNat n.toNat) && ps.all fun p => decide (p.length = 32))
def rebB (leaf : List UInt8) (a n : Int) (ps : LL) : List UInt8 := if rebOk a n ps then comeL leaf a.toNat n.toNat ps else []
def rebE (a n : Int) (ps : LL) : Int := if rebOk a n ps then 0 else 32
theorem reb_bad {leaf : List UInt8} {a n : Int} {ps : LL} (h : rebOk a n ps = false) : rebE a n ps = 32 ∧ rebB leaf a n ps = [] := by
  unfold rebE rebB; rw [h]; exact ⟨rfl, rfl⟩
theorem reb_range {a n : Int} {ps : LL} (h : ¬ (1 ≤ n ∧ n ≤ 65536 ∧ 0 ≤ a ∧ a < n)) : rebOk a n ps = false := by
  unfold rebOk; rw [decide_eq_false h]; rfl
theorem reb_count {a n : Nat} {ps : LL} (h : ps.length ≠ stepsN a n) : rebOk a n ps = false := by
  unfold rebOk; rw [decide_eq_false (p := ps.length = _) (by simpa using h), Bool.false_and, Bool.and_false]
theorem reb_len {a n : Int} {ps : LL} (p : List UInt8) (hp : p ∈ ps) (h : p.length ≠ 32) : rebOk a n ps = false := by
  have : (ps.all fun p => decide (p.length = 32)) = false := by
    rw [List.all_eq_false]
    exact ⟨p, hp, by simpa using h⟩
  unfold rebOk; rw [this, Bool.and_false, Bool.and_false]
theorem reb_good {leaf : List UInt8} {a n : Nat} {ps : LL} (h1 : 1 ≤ n) (h2 : n ≤ 65536) (h3 : a < n) (h4 : ps.length = stepsN a n) (h5 : ∀ p ∈ ps, p.length = 32) : rebE a n ps = 0 ∧ rebB leaf a n ps = comeL leaf a n ps := by
  have : rebOk a n ps = true := by
    unfold rebOk
    rw [decide_eq_true (show (1 : Int) ≤ (n : Int) ∧ (n : Int) ≤ 65536 ∧ (0 : Int) ≤ (a : Int) ∧ (a : Int) < (n : Int) by omega), decide_eq_true (p := ps.length = _) (by simpa using h4), List.all_eq_true.2 (fun p hp => decide_eq_true (h5 p hp))]
    rfl
  unfold rebE rebB
  rw [this]
  exact ⟨rfl, rfl⟩
set_option maxRecDepth 100000 in
set_option maxHeartbeats 4000000 in
theorem refRebuild_calls (leaf : List UInt8) (hleaf : leaf.length ≤ 140737488351232) (ps : LL) (A B : Option Addr) (ca cb : Nat) (a n : Int) (w : World) (hrl : Rb w A leaf) (hr : Rbs w B ps) (hc : ps.length ≤ cb) (hn : ps.length ≤ 5864062014634) (hl : ∀ l ∈ ps, l.length ≤ 140737488351232) (hK : KeysAt w) :
    Calls Tryd.prog 39 #[.slice A leaf.length ca, .int .i64 a, .int .i64 n, .slice B ps.length cb] w fun e w' => ∃ v, e = .returned (.tuple #[v, .int .i64 (rebE a n ps)]) ∧ Mine w' w.heap.size v (bi (rebB leaf a n ps)) ∧ Fr No w w' := by
  have HRL := Aside0.mk hrl; have HR := Aside0.mk hr; have HL := Aside0.mk hl; have HT := Aside0.mk hK
  clear hrl hr hl hK
  by_cases hrange : 1 ≤ n ∧ n ≤ 65536 ∧ 0 ≤ a ∧ a < n
  · obtain ⟨h1, h2, h3, h4⟩ := hrange
    obtain ⟨p, rfl⟩ : ∃ p : Nat, a = (p : Int) := ⟨a.toNat, by omega⟩
    obtain ⟨m, rfl⟩ : ∃ m : Nat, n = (m : Int) := ⟨n.toNat, by omega⟩
    have HG := Aside0.mk (fun h5 h6 => reb_good (leaf := leaf) (a := p) (n := m) (ps := ps) (by omega) (by omega) (by omega) h5 h6)
    have HB1 := Aside0.mk (fun h => reb_bad (leaf := leaf) (reb_count (a := p) (n := m) (ps := ps) h))
    have HB2 := Aside0.mk (fun x hx h => reb_bad (leaf := leaf) (reb_len (a := p) (n := m) (ps := ps) x hx h))
    go_enter Tryd.func39, Tryd.ntmps39
    go_wp2_with fail
    refine (steps_calls m p w (by omega) (by omega)).mono ?_
    rintro e w2 ⟨rfl, rfl⟩
    have HST : Aside0 (∀ s, stepsN p m = s → stepsN p m = s) := ⟨fun _ h => h⟩
    generalize hs : stepsN p m = s at *
    have HS := Aside0.mk hs
    clear hs HST
    by_cases hls : ps.length = s
    · have hls2 : ((ps.length : Int) == (s : Int)) = true := by rw [beq_iff_eq]; omega
      have hls3 : ((ps.length : Int) != (s : Int)) = false := by rw [bne_eq_false_iff_eq]; omega
      have HLS := Aside0.mk hls
      clear hls
      go_wp2_with fail
      clear hls2 hls3
      go_loop [10] (fun i => ∃ k : Nat, k ≤ ps.length ∧ i = .int .i64 k ∧ Aside0 (∀ j (hj : j < ps.length), j < k → (ps[j]).length = 32)) (fun i => ps.length - (intOf i).toNat)
      case atStart => exact ⟨0, by omega, rfl, ⟨fun j _ hj => by omega⟩⟩
      case round =>
        obtain ⟨k, hk, rfl, HA⟩ := hrel
        by_cases hlt : k < ps.length
        · obtain ⟨ad, Ai, ci, hA, hcell, hci, hrb⟩ := HR.out.at_ k hlt
          subst hA
          have HBK := Aside0.mk (HB2.out (ps[k]) (List.getElem_mem hlt))
          have HAK : Aside0 ((ps[k]).length = 32 → ∀ j (hj : j < ps.length), j < k + 1 → (ps[j]).length = 32) := ⟨fun h j hj hjk => by
            by_cases e : j = k
            · subst e; exact h
            · exact HA.out j hj (by omega)⟩
          have hsm := HL.out _ (List.getElem_mem hlt)
          clear hrb HA
          generalize ps[k] = x at *
          by_cases h32 : x.length = 32
          · have HA2 := Aside0.mk (HAK.out h32)
            have hx2 : ((x.length : Int) == 32) = true := by rw [beq_iff_eq]; omega
            have hx3 : ((x.length : Int) != 32) = false := by rw [bne_eq_false_iff_eq]; omega
            clear h32
            go_wp2_with fail
            go_round
            case rel => exact ⟨k + 1, by omega, by go_num, HA2⟩
            case measure => simp [intOf]; omega
          · have HE := Aside0.mk (HBK.out h32)
            have hx2 : ((x.length : Int) == 32) = false := by rw [beq_eq_false_iff_ne]; omega
            have hx3 : ((x.length : Int) != 32) = true := by rw [bne_iff_ne]; omega
            clear h32
            go_wp2_with fail
            go_ret2
            exact ⟨.slice none 0 0, by rw [HE.out.1]; rfl, by rw [HE.out.2]; exact Mine.nil _ _, Fr.refl _ _⟩
        · have HA2 : Aside0 (∀ p ∈ ps, p.length = 32) := ⟨fun p hp => by
            obtain ⟨j, hj, rfl⟩ := List.getElem_of_mem hp
            exact HA.out j hj (by omega)⟩
          have HE := Aside0.mk (HG.out HLS.out HA2.out)
          clear HA
          go_wp2_with fail
          refine (come_calls leaf hleaf m ps ps.length A B ca cb p w rfl (by rw [HLS.out, HS.out]) HRL.out HR.out hc (by omega) (by omega) HA2.out HT.out).mono ?_
          rintro e w3 ⟨v, rfl, hm, hf⟩
          have HM := Aside0.mk hm; have HF := Aside0.mk hf
          clear hm hf
          go_wp2_with fail
          go_ret2
          exact ⟨v, by rw [HE.out.1]; rfl, by rw [HE.out.2]; exact HM.out, HF.out⟩
    · have HE := Aside0.mk (HB1.out hls)
      have hls2 : ((ps.length : Int) == (s : Int)) = false := by rw [beq_eq_false_iff_ne]; omega
      have hls3 : ((ps.length : Int) != (s : Int)) = true := by rw [bne_iff_ne]; omega
      clear hls
      go_wp2_with fail
      go_ret2
      exact ⟨.slice none 0 0, by rw [HE.out.1]; rfl, by rw [HE.out.2]; exact Mine.nil _ _, Fr.refl _ _⟩
  · have HE := Aside0.mk (reb_bad (leaf := leaf) (reb_range (ps := ps) hrange))
    have HX := Aside0.mk hrange
    clear hrange
    go_enter Tryd.func39, Tryd.ntmps39
    by_cases h1 : n < 1
    · go_wp2_with fail
      go_ret2
      exact ⟨.slice none 0 0, by rw [HE.out.1]; rfl, by rw [HE.out.2]; exact Mine.nil _ _, Fr.refl _ _⟩
    by_cases h2 : 65536 < n
    · go_wp2_with fail
      go_ret2
      exact ⟨.slice none 0 0, by rw [HE.out.1]; rfl, by rw [HE.out.2]; exact Mine.nil _ _, Fr.refl _ _⟩
    by_cases h3 : a < 0
    · go_wp2_with fail
      go_ret2
      exact ⟨.slice none 0 0, by rw [HE.out.1]; rfl, by rw [HE.out.2]; exact Mine.nil _ _, Fr.refl _ _⟩
    have h4 : n ≤ a := by have := HX.out; omega
    go_wp2_with fail
    go_ret2
    exact ⟨.slice none 0 0, by rw [HE.out.1]; rfl, by rw [HE.out.2]; exact Mine.nil _ _, Fr.refl _ _⟩
theorem infoTurn : (Tryd.prog.info? 94).map (fun i => (i.zero, i.size, i.bytes)) = some (some (.bool false), 1, 1) := by kernel_rfl
abbrev BOwn (w : World) (base : Nat) (v : Value) (bs : List Bool) : Prop := Kd.R Kd.bool 94 w base (fun _ => True) v bs
theorem BOwn.base {w : World} {base : Nat} {v : Value} {bs : List Bool} (h : BOwn w base v bs) (k : Nat) (hk : v.ownBlock = some k) : base ≤ k := by
  obtain ⟨inner, ho⟩ := Kd.R_own h
  exact own_base ho k hk
theorem BOwn.reads {w : World} {base : Nat} {v : Value} {bs : List Bool} (h : BOwn w base v bs) : ∃ A c, v = .slice A bs.length c ∧ bs.length ≤ c ∧ ∀ j (hj : j < bs.length), ∃ ad, A = some ad ∧ w.cell? (ad.add j) = some (.bool bs[j]) := by
  obtain ⟨A, c, e, hl, hr⟩ := Kd.R_reads h
  refine ⟨A, c, e, hl, fun j hj => ?_⟩
  obtain ⟨ad, ea, hc⟩ := hr.2.2 (by omega)
  obtain ⟨cs, h1, h2, h3⟩ := hc j _ (List.getElem?_eq_getElem hj)
  have h2' : cs = [.bool bs[j]] := h2
  subst h2'
  exact ⟨ad, ea, by simpa [Kd.bool, Kd.scalar] using h3 0 _ rfl⟩
theorem BOwn.nil (w : World) (base : Nat) : BOwn w base (.slice none 0 0) [] := Kd.R_nil _ _ _ _ _
set_option maxRecDepth 100000 in
set_option maxHeartbeats 4000000 in
theorem turns_calls (N : Nat) : ∀ (a : Nat) (w : World), 1 ≤ N → N ≤ 65536 → a ≤ 140737488355328 →
    Calls Tryd.prog 61 #[.int .i64 (a : Int), .int .i64 (N : Int)] w fun e w' => ∃ v, e = .returned v ∧ BOwn w' w.heap.size v (turnsW a N) ∧ Fr No w w' := by
  induction N using Nat.strongRecOn with
  | _ N ih =>
  intro a w hn1 hn ha
  have IH := Aside0.mk ih
  clear ih
  go_enter Tryd.func61, Tryd.ntmps61
  by_cases h1 : N = 1
  · subst h1
    have HE := Aside0.mk (turns_few a 1 (by decide))
    go_wp2_with fail
    go_ret
    exact ⟨.slice none 0 0, rfl, by rw [HE.out]; exact BOwn.nil _ _, Fr.refl _ _⟩
  have h1b : ((N : Int) == 1) = false := by rw [beq_eq_false_iff_ne]; omega
  go_wp2_with fail
  refine (split_calls N (by omega) (by omega) w).mono ?_
  rintro e w2 ⟨rfl, rfl⟩
  have hk1 := cut_pos N
  have hk2 := cut_lt (n := N) (by omega)
  have HW1 := Aside0.mk (turns_left a N (by omega))
  have HW2 := Aside0.mk (turns_right a N (by omega))
  have HSB : Aside0 ((turnsW a N).length < N) := ⟨steps_lt N a hn1⟩
  generalize cutN N = k at *
  by_cases hlt : a < k
  · have HWE := Aside0.mk (HW1.out hlt)
    have HLL : Aside0 (((turnsW a k).length + 1) * 1 ≤ 140737488355328) := ⟨by have := HSB.out; rw [HWE.out, List.length_append] at this; omega⟩
    clear HW1 HW2 HSB
    go_wp2_with fail
    refine (IH.out k hk2 a w hk1 (by omega) ha).mono ?_
    rintro e w3 ⟨v, rfl, hm, hf⟩
    have HM := Aside0.mk hm; have HF := Aside0.mk hf; have HZ := Aside0.mk hf.size
    clear hm hf
    go_wp2_with (at_builtin; refine Kd.R_append Kd.bool (w0 := w3) w.heap.size rfl (.tmp 15) (.tmp 16) 91 94 (.bool false) 1 rfl Tryd.underlying91 infoTurn rfl (Nat.succ_pos 0) (by decide) v (turnsW a k) false [.bool false] (fun _ => True) (fun _ => False) rfl rfl rfl (fun _ h => h.elim) (fun _ _ => trivial) HM.out (Below.refl _ _) HZ.out HLL.out ?_; intro v1 w1 hr1 hb1 hg1 hat1)
    have hf1 : Fr No w w1 := HF.out.grown hg1 (fun k hk => .inr (HM.out.base k hk))
    rw [← HWE.out] at hr1
    go_wp2_with fail
    go_ret
    exact ⟨v1, rfl, hr1, hf1⟩
  · obtain ⟨q, hq⟩ : ∃ q, a - k = q := ⟨_, rfl⟩
    obtain ⟨r, hr⟩ : ∃ r, N - k = r := ⟨_, rfl⟩
    have hqi : (a : Int) - (k : Int) = (q : Int) := by omega
    have hri : (N : Int) - (k : Int) = (r : Int) := by omega
    have HWE := Aside0.mk (HW2.out hlt)
    rw [hq, hr] at HWE
    have hrN : r < N := by omega
    have hr1 : 1 ≤ r := by omega
    have hq2 : q ≤ 140737488355328 := by omega
    have HLL : Aside0 (((turnsW q r).length + 1) * 1 ≤ 140737488355328) := ⟨by have := HSB.out; rw [HWE.out, List.length_append] at this; omega⟩
    clear HW1 HW2 HSB hq hr
    go_wp2_with fail
    refine (IH.out r hrN q w hr1 (by omega) hq2).mono ?_
    rintro e w3 ⟨v, rfl, hm, hf⟩
    have HM := Aside0.mk hm; have HF := Aside0.mk hf; have HZ := Aside0.mk hf.size
    clear hm hf
    go_wp2_with (at_builtin; refine Kd.R_append Kd.bool (w0 := w3) w.heap.size rfl (.tmp 24) (.tmp 25) 91 94 (.bool false) 1 rfl Tryd.underlying91 infoTurn rfl (Nat.succ_pos 0) (by decide) v (turnsW q r) true [.bool true] (fun _ => True) (fun _ => False) rfl rfl rfl (fun _ h => h.elim) (fun _ _ => trivial) HM.out (Below.refl _ _) HZ.out HLL.out ?_; intro v1 w1 hr1 hb1 hg1 hat1)
    have hf1 : Fr No w w1 := HF.out.grown hg1 (fun k hk => .inr (HM.out.base k hk))
    rw [← HWE.out] at hr1
    go_wp2_with fail
    go_ret
    exact ⟨v1, rfl, hr1, hf1⟩
/-- How far a leaf has come behind the lowest k places. -/
def comeK (leaf : List UInt8) (bs : List Bool) (ps : LL) (k : Nat) : List UInt8 := ((bs.take k).zip (ps.take k)).foldl stepUp (sha (0 :: leaf))
theorem comeK_zero (leaf : List UInt8) (bs : List Bool) (ps : LL) : comeK leaf bs ps 0 = sha (0 :: leaf) := rfl
theorem comeK_succ (leaf : List UInt8) (bs : List Bool) (ps : LL) (k : Nat) (h1 : k < bs.length) (h2 : k < ps.length) : comeK leaf bs ps (k + 1) = stepUp (comeK leaf bs ps k) (bs[k], ps[k]) := by
  unfold comeK
  rw [List.take_succ_eq_append_getElem h1, List.take_succ_eq_append_getElem h2, List.zip_append (by simp; omega), List.foldl_append]
  rfl
theorem comeK_length (leaf : List UInt8) (bs : List Bool) (ps : LL) (k : Nat) : (comeK leaf bs ps k).length = 32 := by
  unfold comeK
  generalize hd : sha (0 :: leaf) = d
  have hl : d.length = 32 := by rw [← hd]; exact sha_length _
  clear hd
  generalize (bs.take k).zip (ps.take k) = xs
  induction xs generalizing d with
  | nil => exact hl
  | cons x xs ih =>
    refine ih _ ?_
    unfold stepUp
    split <;> exact sha_length _
theorem comeK_all (leaf : List UInt8) (a n : Nat) (ps : LL) (h : ps.length = stepsN a n) : comeK leaf (turnsW a n) ps ps.length = comeL leaf a n ps := by
  unfold comeK comeL
  rw [List.take_length, List.take_of_length_le (by show stepsN a n ≤ ps.length; omega)]
/-- A row of three lists, the first of one byte (a constant). -/
theorem three_rows {W : World} {x : UInt8} {a b : List UInt8} {A B : Option Addr} {ca cb la lb : Nat} (hla : a.length = la) (hlb : b.length = lb) (hca : la ≤ ca) (hcb : lb ≤ cb) (ha : Rb W A a) (hb : Rb W B b) (n : Int) (hn : n = (x.toNat : Int)) :
    Rbs ((W.alloc (.cells #[.int .u8 n] 5 (1, 2))).alloc (.cells #[.slice (some ⟨W.heap.size, 0, none⟩) 1 1, .slice A la ca, .slice B lb cb] 22)) (some ⟨W.heap.size + 1, 0, none⟩) [[x], a, b] := by
  subst hla hlb hn
  have hf : Fr No W (W.alloc (.cells #[.int .u8 (x.toNat : Int)] 5 (1, 2))) := (Fr.refl No W).alloc _
  have h1 : RdV (W.alloc (.cells #[.int .u8 (x.toNat : Int)] 5 (1, 2))) (.slice (some ⟨W.heap.size, 0, none⟩) 1 1) [x] := OneV.rdv (w0 := W) ⟨_, rfl, Nat.le_refl _, ⟨_, heap_alloc_new W _⟩⟩
  have h := new_rows (vs := [.slice (some ⟨W.heap.size, 0, none⟩) 1 1, .slice A a.length ca, .slice B b.length cb]) (ls := [[x], a, b]) rfl (by simp) (rdv_three h1 ⟨A, ca, rfl, hca, C_fr ha hf⟩ ⟨B, cb, rfl, hcb, C_fr hb hf⟩)
  have hz : (W.alloc (.cells #[.int .u8 (x.toNat : Int)] 5 (1, 2))).heap.size = W.heap.size + 1 := by simp
  rw [hz] at h
  exact h
theorem two_rows {W : World} {x : UInt8} {a : List UInt8} {A : Option Addr} {ca : Nat} (hca : a.length ≤ ca) (ha : Rb W A a) (n : Int) (hn : n = (x.toNat : Int)) :
    Rbs ((W.alloc (.cells #[.int .u8 n] 5 (1, 2))).alloc (.cells #[.slice (some ⟨W.heap.size, 0, none⟩) 1 1, .slice A a.length ca] 22)) (some ⟨W.heap.size + 1, 0, none⟩) [[x], a] := by
  subst hn
  have hf : Fr No W (W.alloc (.cells #[.int .u8 (x.toNat : Int)] 5 (1, 2))) := (Fr.refl No W).alloc _
  have h1 : RdV (W.alloc (.cells #[.int .u8 (x.toNat : Int)] 5 (1, 2))) (.slice (some ⟨W.heap.size, 0, none⟩) 1 1) [x] := OneV.rdv (w0 := W) ⟨_, rfl, Nat.le_refl _, ⟨_, heap_alloc_new W _⟩⟩
  have h := new_rows (vs := [.slice (some ⟨W.heap.size, 0, none⟩) 1 1, .slice A a.length ca]) (ls := [[x], a]) rfl (by simp) (rdv_two h1 ⟨A, ca, rfl, hca, C_fr ha hf⟩)
  have hz : (W.alloc (.cells #[.int .u8 (x.toNat : Int)] 5 (1, 2))).heap.size = W.heap.size + 1 := by simp
  rw [hz] at h
  exact h
set_option maxRecDepth 100000 in
set_option maxHeartbeats 4000000 in
theorem rebuild_walk (leaf : List UInt8) (hleaf : leaf.length ≤ 140737488351232) (ps : LL) (A B : Option Addr) (ca cb : Nat) (a n : Int) (w : World) (hrl : Rb w A leaf) (hca : leaf.length ≤ ca) (hr : Rbs w B ps) (hn : ps.length ≤ 5864062014634) (hl : ∀ l ∈ ps, l.length ≤ 140737488351232) (hK : KAt w) (hF : FirstAt w) :
    Calls Tryd.prog 38 #[.slice A leaf.length ca, .int .i64 a, .int .i64 n, .slice B ps.length cb] w fun e w' => ∃ v, e = .returned (.tuple #[v, .int .i64 (rebE a n ps)]) ∧ Mine w' w.heap.size v (bi (rebB leaf a n ps)) ∧ Fr No w w' := by
  have HRL := Aside0.mk hrl; have HR := Aside0.mk hr; have HL := Aside0.mk hl; have HT := Aside0.mk (And.intro hK hF)
  have hcv := fun (w : World) (C : Array Value) (n c : Nat) => Lib.run_convert_bytes_const (P := Tryd.prog) w 22 5 C n c Tryd.underlying22 Tryd.underlying5
  have HCV := Aside0.mk hcv
  clear hrl hr hl hK hF hcv
  by_cases hrange : 1 ≤ n ∧ n ≤ 65536 ∧ 0 ≤ a ∧ a < n
  · obtain ⟨h1, h2, h3, h4⟩ := hrange
    obtain ⟨p, rfl⟩ : ∃ p : Nat, a = (p : Int) := ⟨a.toNat, by omega⟩
    obtain ⟨m, rfl⟩ : ∃ m : Nat, n = (m : Int) := ⟨n.toNat, by omega⟩
    have HG := Aside0.mk (fun h5 h6 => reb_good (leaf := leaf) (a := p) (n := m) (ps := ps) (by omega) (by omega) (by omega) h5 h6)
    have HB1 := Aside0.mk (fun h => reb_bad (leaf := leaf) (reb_count (a := p) (n := m) (ps := ps) h))
    have HB2 := Aside0.mk (fun x hx h => reb_bad (leaf := leaf) (reb_len (a := p) (n := m) (ps := ps) x hx h))
    go_enter Tryd.func38, Tryd.ntmps38
    go_wp2_with fail
    refine (turns_calls m p w (by omega) (by omega) (by omega)).mono ?_
    rintro e w2 ⟨v, rfl, hm, hf⟩
    obtain ⟨T, ct, rfl, hct, hrt⟩ := hm.reads
    have HTU := Aside0.mk hrt; have HF2 := Aside0.mk hf
    have HCA := Aside0.mk (comeK_all leaf p m ps)
    have HSN : Aside0 ((turnsW p m).length = stepsN p m) := ⟨rfl⟩
    clear hm hf hrt hct
    generalize turnsW p m = bs at *
    have hbs : bs.length ≤ 65536 := by rw [HSN.out]; exact Nat.le_of_lt (Nat.lt_of_lt_of_le (steps_lt m p (by omega)) (by omega))
    by_cases hls : ps.length = bs.length
    · have hls2 : ((bs.length : Int) == (ps.length : Int)) = true := by rw [beq_iff_eq]; omega
      have hls3 : ((bs.length : Int) != (ps.length : Int)) = false := by rw [bne_eq_false_iff_eq]; omega
      have HLS := Aside0.mk hls
      clear hls
      go_wp2_with fail
      clear hls2 hls3
      go_loop [41] (fun i => ∃ k : Nat, k ≤ ps.length ∧ i = .int .i64 k ∧ Aside0 (∀ j (hj : j < ps.length), j < k → (ps[j]).length = 32)) (fun i => ps.length - (intOf i).toNat)
      case atStart => exact ⟨0, by omega, rfl, ⟨fun j _ hj => by omega⟩⟩
      case round =>
        obtain ⟨k, hk, rfl, HA⟩ := hrel
        by_cases hlt : k < ps.length
        · obtain ⟨ad, Ai, ci, hA, hcell, hci, hrb⟩ := (HR.out.fr HF2.out).at_ k hlt
          subst hA
          have HBK := Aside0.mk (HB2.out (ps[k]) (List.getElem_mem hlt))
          have HAK : Aside0 ((ps[k]).length = 32 → ∀ j (hj : j < ps.length), j < k + 1 → (ps[j]).length = 32) := ⟨fun h j hj hjk => by
            by_cases e : j = k
            · subst e; exact h
            · exact HA.out j hj (by omega)⟩
          have hsm := HL.out _ (List.getElem_mem hlt)
          clear hrb HA
          generalize ps[k] = x at *
          by_cases h32 : x.length = 32
          · have HA2 := Aside0.mk (HAK.out h32)
            have hx2 : ((x.length : Int) == 32) = true := by rw [beq_iff_eq]; omega
            have hx3 : ((x.length : Int) != 32) = false := by rw [bne_eq_false_iff_eq]; omega
            clear h32
            go_wp2_with fail
            go_round
            case rel => exact ⟨k + 1, by omega, by go_num, HA2⟩
            case measure => simp [intOf]; omega
          · have HE := Aside0.mk (HBK.out h32)
            have hx2 : ((x.length : Int) == 32) = false := by rw [beq_eq_false_iff_ne]; omega
            have hx3 : ((x.length : Int) != 32) = true := by rw [bne_iff_ne]; omega
            clear h32
            go_wp2_with fail
            go_ret2
            exact ⟨.slice none 0 0, by rw [HE.out.1]; rfl, by rw [HE.out.2]; exact Mine.nil _ _, HF2.out⟩
        · have HA2 : Aside0 (∀ p ∈ ps, p.length = 32) := ⟨fun p hp => by
            obtain ⟨j, hj, rfl⟩ := List.getElem_of_mem hp
            exact HA.out j hj (by omega)⟩
          have HE := Aside0.mk (HG.out (by rw [HLS.out, HSN.out]) HA2.out)
          have HCE := Aside0.mk (HCA.out (by rw [HLS.out, HSN.out]))
          have hbp : bs.length ≤ ps.length := by rw [HLS.out]; exact Nat.le_refl _
          have hpb : ps.length ≤ bs.length := by rw [HLS.out]; exact Nat.le_refl _
          clear HA HG HB1 HB2 HCA
          have hcv := HCV.out
          go_wp2_with fail
          have hrw := two_rows (W := w2) (x := 0) hca (C_fr HRL.out HF2.out) 0 rfl
          have hfa : Fr No w2 ((w2.alloc (.cells #[.int .u8 0] 5 (1, 2))).alloc (.cells #[.slice (some ⟨w2.heap.size, 0, none⟩) 1 1, .slice A leaf.length ca] 22)) := ((Fr.refl No w2).alloc _).alloc _
          have HRW := Aside0.mk hrw; have HFA := Aside0.mk hfa
          clear hrw hfa
          generalize (w2.alloc (.cells #[.int .u8 0] 5 (1, 2))).alloc (.cells #[.slice (some ⟨w2.heap.size, 0, none⟩) 1 1, .slice A leaf.length ca] 22) = Wg at HRW HFA ⊢
          have HFW : Aside0 (Fr No w Wg) := ⟨HF2.out.then_ HFA.out⟩
          refine (sums_calls [[0], leaf] _ 2 2 rfl _ HRW.out (by simp; omega) (HT.out.1.fr HFW.out id) (HT.out.2.fr HFW.out id)).mono ?_
          rintro e w3 ⟨v, rfl, hm, hf⟩
          have HM3 : Aside0 (Mine w3 w.heap.size v (bi (comeK leaf bs ps 0))) := ⟨by
            rw [comeK_zero]
            exact (by simpa using hm : Mine w3 Wg.heap.size v (bi (sha (0 :: leaf)))).lower HFW.out.size⟩
          have HF3 : Aside0 (Fr No w w3) := ⟨HFW.out.then_ hf⟩
          have HTU3 : Aside0 (∀ W, Fr No w W → Fr No w2 W → ∀ j (hj : j < bs.length), ∃ ad, T = some ad ∧ W.cell? (ad.add j) = some (.bool bs[j])) := ⟨fun W _ h j hj => by
            obtain ⟨ad, e, hc⟩ := HTU.out j hj
            exact ⟨ad, e, h.cell hc id⟩⟩
          have HF23 : Aside0 (Fr No w2 w3) := ⟨HFA.out.then_ hf⟩
          clear hm hf hcv HRW HFA HFW
          go_wp2_with fail
          go_loopw [13, 56] (fun v i wr => ∃ k : Nat, k ≤ bs.length ∧ i = .int .i64 k ∧ Aside0 (Mine wr w.heap.size v (bi (comeK leaf bs ps k))) ∧ Aside0 (Fr No w wr) ∧ Aside0 (Fr No w2 wr)) (fun _ i _ => bs.length - (intOf i).toNat)
          case atStart => exact ⟨0, by omega, rfl, HM3, HF3, HF23⟩
          case round =>
            clear HM3 HF3 HF23
            obtain ⟨k, hk, rfl, HM, HF, HF4⟩ := hrel
            by_cases hlt : k < bs.length
            · have hkp : k < ps.length := by omega
              obtain ⟨ad, hT, hcb0⟩ := HTU3.out wr HF.out HF4.out k hlt
              subst hT
              obtain ⟨bd, Bi, ci, hB, hcell, hci, hrb⟩ := (HR.out.fr HF.out).at_ k hkp
              subst hB
              have hp32 := HA2.out _ (List.getElem_mem hkp)
              have HSU := Aside0.mk (comeK_succ leaf bs ps k hlt hkp)
              obtain ⟨D, cd, hD, hcd, hrd⟩ := HM.out.reads
              rw [comeK_length] at hD hcd
              subst hD
              have HRB := Aside0.mk hrb; have HRD := Aside0.mk hrd
              have HDL : Aside0 ((comeK leaf bs ps k).length = 32) := ⟨comeK_length _ _ _ _⟩
              clear hrb hrd HM
              generalize comeK leaf bs ps k = d at *
              generalize ps[k] = x at *
              rw [hp32] at hcell hci
              have hcell2 : (wr.alloc (.cells #[.int .u8 1] 5 (1, 2))).cell? (bd.add k) = some (.slice Bi 32 ci) := ((Fr.refl No wr).alloc _).cell hcell id
              clear hcell
              have HPL := Aside0.mk hp32
              clear hp32
              have hcv := HCV.out
              have hkl : (k : Int) < (ps.length : Int) := by omega
              cases hbk : bs[k] with
              | true =>
                rw [hbk] at hcb0 HSU
                clear hbk
                go_wp2_with fail
                have hrw := three_rows (W := wr) (x := 1) HPL.out HDL.out hci hcd HRB.out HRD.out 1 rfl
                have hfa : Fr No wr ((wr.alloc (.cells #[.int .u8 1] 5 (1, 2))).alloc (.cells #[.slice (some ⟨wr.heap.size, 0, none⟩) 1 1, .slice Bi 32 ci, .slice D 32 cd] 22)) := ((Fr.refl No wr).alloc _).alloc _
                have HRW := Aside0.mk hrw; have HFA := Aside0.mk hfa
                clear hrw hfa
                generalize (wr.alloc (.cells #[.int .u8 1] 5 (1, 2))).alloc (.cells #[.slice (some ⟨wr.heap.size, 0, none⟩) 1 1, .slice Bi 32 ci, .slice D 32 cd] 22) = Wg at HRW HFA ⊢
                have HFW : Aside0 (Fr No w Wg) := ⟨HF.out.then_ HFA.out⟩
                refine (sums_calls [[1], x, d] _ 3 3 rfl _ HRW.out (by have := HPL.out; have := HDL.out; simp; omega) (HT.out.1.fr HFW.out id) (HT.out.2.fr HFW.out id)).mono ?_
                rintro e w4 ⟨v, rfl, hm, hf⟩
                have HM5 : Aside0 (Mine w4 w.heap.size v (bi (comeK leaf bs ps (k + 1)))) := ⟨by
                  rw [HSU.out]
                  exact (by simpa [stepUp] using hm : Mine w4 Wg.heap.size v (bi (stepUp d (true, x)))).lower HFW.out.size⟩
                have HF5 : Aside0 (Fr No w w4) := ⟨HFW.out.then_ hf⟩
                have HF6 : Aside0 (Fr No w2 w4) := ⟨(HF4.out.then_ HFA.out).then_ hf⟩
                clear hm hf hcv
                go_wp2_with fail
                exact ⟨⟨k + 1, by omega, by go_num, HM5, HF5, HF6⟩, by simp [intOf]; omega⟩
              | false =>
                rw [hbk] at hcb0 HSU
                clear hbk
                go_wp2_with fail
                have hrw := three_rows (W := wr) (x := 1) HDL.out HPL.out hcd hci HRD.out HRB.out 1 rfl
                have hfa : Fr No wr ((wr.alloc (.cells #[.int .u8 1] 5 (1, 2))).alloc (.cells #[.slice (some ⟨wr.heap.size, 0, none⟩) 1 1, .slice D 32 cd, .slice Bi 32 ci] 22)) := ((Fr.refl No wr).alloc _).alloc _
                have HRW := Aside0.mk hrw; have HFA := Aside0.mk hfa
                clear hrw hfa
                generalize (wr.alloc (.cells #[.int .u8 1] 5 (1, 2))).alloc (.cells #[.slice (some ⟨wr.heap.size, 0, none⟩) 1 1, .slice D 32 cd, .slice Bi 32 ci] 22) = Wg at HRW HFA ⊢
                have HFW : Aside0 (Fr No w Wg) := ⟨HF.out.then_ HFA.out⟩
                refine (sums_calls [[1], d, x] _ 3 3 rfl _ HRW.out (by have := HPL.out; have := HDL.out; simp; omega) (HT.out.1.fr HFW.out id) (HT.out.2.fr HFW.out id)).mono ?_
                rintro e w4 ⟨v, rfl, hm, hf⟩
                have HM5 : Aside0 (Mine w4 w.heap.size v (bi (comeK leaf bs ps (k + 1)))) := ⟨by
                  rw [HSU.out]
                  exact (by simpa [stepUp] using hm : Mine w4 Wg.heap.size v (bi (stepUp d (false, x)))).lower HFW.out.size⟩
                have HF5 : Aside0 (Fr No w w4) := ⟨HFW.out.then_ hf⟩
                have HF6 : Aside0 (Fr No w2 w4) := ⟨(HF4.out.then_ HFA.out).then_ hf⟩
                clear hm hf hcv
                go_wp2_with fail
                exact ⟨⟨k + 1, by omega, by go_num, HM5, HF5, HF6⟩, by simp [intOf]; omega⟩
            · have hkb : k = ps.length := by omega
              have HM9 : Aside0 (Mine wr w.heap.size u13 (bi (rebB leaf (p : Int) (m : Int) ps))) := ⟨by rw [HE.out.2, ← HCE.out, ← hkb]; exact HM.out⟩
              clear hkb HM
              go_wp2_with fail
              go_ret2
              exact ⟨_, by rw [HE.out.1]; rfl, HM9.out, HF.out⟩
    · have HE := Aside0.mk (HB1.out (by rw [← HSN.out]; exact hls))
      have hls2 : ((bs.length : Int) == (ps.length : Int)) = false := by rw [beq_eq_false_iff_ne]; omega
      have hls3 : ((bs.length : Int) != (ps.length : Int)) = true := by rw [bne_iff_ne]; omega
      clear hls
      go_wp2_with fail
      go_ret2
      exact ⟨.slice none 0 0, by rw [HE.out.1]; rfl, by rw [HE.out.2]; exact Mine.nil _ _, HF2.out⟩
  · have HE := Aside0.mk (reb_bad (leaf := leaf) (reb_range (ps := ps) hrange))
    have HX := Aside0.mk hrange
    clear hrange
    go_enter Tryd.func38, Tryd.ntmps38
    by_cases h1 : n < 1
    · go_wp2_with fail
      go_ret2
      exact ⟨.slice none 0 0, by rw [HE.out.1]; rfl, by rw [HE.out.2]; exact Mine.nil _ _, Fr.refl _ _⟩
    by_cases h2 : 65536 < n
    · go_wp2_with fail
      go_ret2
      exact ⟨.slice none 0 0, by rw [HE.out.1]; rfl, by rw [HE.out.2]; exact Mine.nil _ _, Fr.refl _ _⟩
    by_cases h3 : a < 0
    · go_wp2_with fail
      go_ret2
      exact ⟨.slice none 0 0, by rw [HE.out.1]; rfl, by rw [HE.out.2]; exact Mine.nil _ _, Fr.refl _ _⟩
    have h4 : n ≤ a := by have := HX.out; omega
    go_wp2_with fail
    go_ret2
    exact ⟨.slice none 0 0, by rw [HE.out.1]; rfl, by rw [HE.out.2]; exact Mine.nil _ _, Fr.refl _ _⟩
end Go.Proofs.YtbaeddppihjgfaaDoor.Sg
