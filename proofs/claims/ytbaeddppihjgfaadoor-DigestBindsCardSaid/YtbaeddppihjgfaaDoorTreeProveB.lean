/- The walks of the program's Root and Prove, and of the reference's way and Prove. -/
import Derived.Laws.EntriesVeiled
import Derived.Test.YtbaeddppihjgfaaDoorTreeProve
namespace Go.Proofs.YtbaeddppihjgfaaDoor.Sg
open Go Go.RowKit Go.Proofs.YtbaeddppihjgfaaDoorW.PrintWords
set_option linter.unusedVariables false
theorem root_walk (ls : LL) (A : Option Addr) (c : Nat) (w : World) (hr : Rbs w A ls) (hc : ls.length ≤ c) (hn : ls.length ≤ 5864062014634) (hl : ∀ l ∈ ls, l.length ≤ 140737488351232) (hK : KAt w) (hF : FirstAt w) :
    Calls Tryd.prog 41 #[.slice A ls.length c] w fun e w' => ∃ v, e = .returned (.tuple #[v, .int .i64 (rootE ls)]) ∧ Mine w' w.heap.size v (bi (rootB ls)) ∧ Fr No w w' := by
  have HR := Aside0.mk hr; have HL := Aside0.mk hl; have HT := Aside0.mk (And.intro hK hF)
  clear hr hl hK hF
  go_enter Tryd.func41, Tryd.ntmps41
  by_cases h : ls.length ≤ 65536
  · have HE : Aside0 (rootE ls = 0 ∧ rootB ls = treeL ls) := ⟨by unfold rootE rootB; rw [if_pos h, if_pos h]; exact ⟨rfl, rfl⟩⟩
    go_wp2_with fail
    refine (root_calls ls.length ls A c w rfl HR.out hc (by omega) HL.out HT.out.1 HT.out.2).mono ?_
    rintro e w2 ⟨v, rfl, hm, hf⟩
    have HM := Aside0.mk hm; have HF := Aside0.mk hf
    clear hm hf
    go_wp2_with fail
    go_ret2
    exact ⟨v, by rw [HE.out.1]; rfl, by rw [HE.out.2]; exact HM.out, HF.out⟩
  · have HE : Aside0 (rootE ls = 2 ∧ rootB ls = []) := ⟨by unfold rootE rootB; rw [if_neg h, if_neg h]; exact ⟨rfl, rfl⟩⟩
    go_wp2_with fail
    go_ret2
    exact ⟨.slice none 0 0, by rw [HE.out.1]; rfl, by rw [HE.out.2]; exact Mine.nil _ _, Fr.refl _ _⟩
/-- What Prove answers. -/
def proveB (ls : LL) (a : Int) : LL := if ls.length ≤ 65536 ∧ 0 ≤ a ∧ a < ls.length then wayL ls a.toNat else []
def proveE (ls : LL) (a : Int) : Int := if ls.length ≤ 65536 then (if 0 ≤ a ∧ a < ls.length then 0 else 32) else 2
theorem prove_yes {ls : LL} {a : Nat} (h : ls.length ≤ 65536) (ha : a < ls.length) : proveE ls a = 0 ∧ proveB ls a = wayL ls a := by
  unfold proveE proveB
  rw [if_pos h, if_pos (by omega), if_pos (by omega)]
  exact ⟨rfl, rfl⟩
theorem prove_no {ls : LL} {a : Int} (h : ls.length ≤ 65536) (ha : ¬ (0 ≤ a ∧ a < ls.length)) : proveE ls a = 32 ∧ proveB ls a = [] := by
  unfold proveE proveB
  rw [if_pos h, if_neg ha, if_neg (fun h2 => ha h2.2)]
  exact ⟨rfl, rfl⟩
theorem prove_long {ls : LL} {a : Int} (h : ¬ ls.length ≤ 65536) : proveE ls a = 2 ∧ proveB ls a = [] := by
  unfold proveE proveB
  rw [if_neg h, if_neg (fun h2 => h h2.1)]
  exact ⟨rfl, rfl⟩
set_option maxRecDepth 100000 in
set_option maxHeartbeats 4000000 in
theorem prove_walk (ls : LL) (a : Int) (A : Option Addr) (c : Nat) (w : World) (hr : Rbs w A ls) (hc : ls.length ≤ c) (hn : ls.length ≤ 5864062014634) (hl : ∀ l ∈ ls, l.length ≤ 140737488351232) (hK : KAt w) (hF : FirstAt w) :
    Calls Tryd.prog 43 #[.slice A ls.length c, .int .i64 a] w fun e w' => ∃ v, e = .returned (.tuple #[v, .int .i64 (proveE ls a)]) ∧ LOwn w' w.heap.size v (proveB ls a) ∧ Fr No w w' := by
  have HR := Aside0.mk hr; have HL := Aside0.mk hl; have HT := Aside0.mk (And.intro hK hF)
  clear hr hl hK hF
  by_cases h : ls.length ≤ 65536
  · by_cases ha : 0 ≤ a ∧ a < ls.length
    · obtain ⟨ha0, ha1⟩ := ha
      obtain ⟨p, rfl⟩ : ∃ p : Nat, a = (p : Int) := ⟨a.toNat, by omega⟩
      have HE := Aside0.mk (prove_yes h (show p < ls.length by omega))
      have HCB : Aside0 ((w.alloc (.cells #[wayFn w.heap.size] 96)).cell? ⟨w.heap.size, 0, none⟩ = some (wayFn w.heap.size)) := ⟨new_cell w _ _⟩
      have HF1 : Aside0 (Fr No w (w.alloc (.cells #[wayFn w.heap.size] 96))) := ⟨(Fr.refl No w).alloc _⟩
      go_enter Tryd.func43, Tryd.ntmps43
      go_wp2_with fail
      refine (wayF_calls ls.length ls A c p w.heap.size _ rfl (HR.out.fr HF1.out) hc (by omega) hn (by omega) HL.out (HT.out.1.fr HF1.out id) (HT.out.2.fr HF1.out id) HCB.out).mono ?_
      rintro e w2 ⟨v, rfl, hm, hf⟩
      have HM : Aside0 (LOwn w2 w.heap.size v (wayL ls p)) := ⟨hm.lower HF1.out.size⟩
      have HF := Aside0.mk (HF1.out.then_ hf)
      clear hm hf
      go_wp2_with fail
      go_ret2
      exact ⟨v, by rw [HE.out.1]; rfl, by rw [HE.out.2]; exact HM.out, HF.out⟩
    · have HE := Aside0.mk (prove_no h ha)
      have HX := Aside0.mk ha
      clear ha
      go_enter Tryd.func43, Tryd.ntmps43
      by_cases h0 : a < 0
      · go_wp2_with fail
        go_ret2
        exact ⟨.slice none 0 0, by rw [HE.out.1]; rfl, by rw [HE.out.2]; exact LOwn.nil _ _, Fr.refl _ _⟩
      · have h1 : (ls.length : Int) ≤ a := by have := HX.out; omega
        go_wp2_with fail
        go_ret2
        exact ⟨.slice none 0 0, by rw [HE.out.1]; rfl, by rw [HE.out.2]; exact LOwn.nil _ _, Fr.refl _ _⟩
  · have HE := Aside0.mk (prove_long (a := a) h)
    go_enter Tryd.func43, Tryd.ntmps43
    go_wp2_with fail
    go_ret2
    exact ⟨.slice none 0 0, by rw [HE.out.1]; rfl, by rw [HE.out.2]; exact LOwn.nil _ _, Fr.refl _ _⟩
set_option maxRecDepth 100000 in
set_option maxHeartbeats 4000000 in
theorem refWay_calls (N : Nat) : ∀ (ls : LL) (A : Option Addr) (c a : Nat) (w : World), ls.length = N → Rbs w A ls → N ≤ c → N ≤ 5864062014634 → a ≤ 140737488355328 → (∀ l ∈ ls, l.length ≤ 140737488351232) → KeysAt w →
    Calls Tryd.prog 64 #[.slice A N c, .int .i64 (a : Int)] w fun e w' => ∃ v, e = .returned v ∧ LOwn w' w.heap.size v (wayL ls a) ∧ Fr No w w' := by
  induction N using Nat.strongRecOn with
  | _ N ih =>
  intro ls A c a w hN hr hc hn ha hl hK
  have HR := Aside0.mk hr; have HL := Aside0.mk hl; have HT := Aside0.mk hK; have IH := Aside0.mk ih; have HN := Aside0.mk hN
  clear hr hl hK ih hN
  go_enter Tryd.func64, Tryd.ntmps64
  by_cases h1 : N < 2
  · have he := Aside0.mk (way_few ls a (by rw [HN.out]; omega))
    go_wp2_with fail
    go_ret
    exact ⟨.slice none 0 0, rfl, by rw [he.out]; exact LOwn.nil _ _, Fr.refl _ _⟩
  go_wp2_with fail
  refine (cut_calls N (by omega) (by omega) w).mono ?_
  rintro e w2 ⟨rfl, rfl⟩
  have hk1 := cut_pos N
  have hk2 := cut_lt (n := N) (by omega)
  have HW1 := Aside0.mk (way_left ls a (by rw [HN.out]; omega))
  have HW2 := Aside0.mk (way_right ls a (by rw [HN.out]; omega))
  rw [HN.out] at HW1 HW2
  have HWN : Aside0 ((wayL ls a).length < N) := ⟨by rw [way_length, HN.out]; exact steps_lt N a (by omega)⟩
  generalize cutN N = k at *
  obtain ⟨ad, hA⟩ : ∃ ad, A = some ad := by
    obtain ⟨ad, _, _, hA, _⟩ := HR.out.at_ 0 (by rw [HN.out]; omega)
    exact ⟨ad, hA⟩
  subst hA
  have HRS : Aside0 (∀ W, Fr No w W → Rbs W (some ad) (ls.take k) ∧ Rbs W (some (ad.add k)) (ls.drop k)) := ⟨fun W hg => ⟨Rbs_take (HR.out.fr hg) k (by rw [HN.out]; omega), by
    have h := Rbs_drop (c := c) (HR.out.fr hg) k (by rw [HN.out]; omega) (by rw [HN.out]; omega)
    rw [if_neg (by omega)] at h
    exact h⟩⟩
  have hc2 : ¬ c = k := by omega
  have hnc : (k : Int) ≤ (N : Int) := by omega
  have hkc : k ≤ c := by omega
  by_cases hlt : a < k
  · have HWE := Aside0.mk (HW1.out hlt)
    have HWM : Aside0 ((wayL (ls.take k) a).length ≤ 5864062014634) := ⟨by have := HWN.out; rw [HWE.out, List.length_append] at this; omega⟩
    clear HW1 HW2 HWN
    go_wp2_with fail
    refine (IH.out k hk2 (ls.take k) _ _ a w (by rw [List.length_take, HN.out]; omega) (HRS.out w (Fr.refl _ _)).1 (by omega) (by omega) (by omega) (fun l h => HL.out l (List.mem_of_mem_take h)) HT.out).mono ?_
    rintro e w3 ⟨v, rfl, hm, hf⟩
    have HM := Aside0.mk hm; have HF := Aside0.mk hf
    clear hm hf
    go_wp2_with fail
    refine (over_calls (N - k) (ls.drop k) _ _ w3 (by rw [List.length_drop, HN.out]) (HRS.out w3 HF.out).2 (by omega) (by omega) (fun l h => HL.out l (List.mem_of_mem_drop h)) (HT.out.fr HF.out id)).mono ?_
    rintro e w4 ⟨u, rfl, hm, hf⟩
    obtain ⟨X, cx, rfl, hcx, hrx⟩ := hm.reads
    rw [tree_length] at hcx hm ⊢
    have HU := Aside0.mk hm; have HF2 := Aside0.mk (HF.out.then_ hf); have HF3 := Aside0.mk hf
    have HSZ := Aside0.mk HF.out.size
    clear hm hf hrx
    go_wp2_with (at_builtin; refine app_list (w0 := w) (W0 := w3) rfl (.tmp 28) (.tmp 30) 34 rfl Tryd.underlying34 infoRow v (.slice X 32 cx) (wayL (ls.take k) a) (treeL (ls.drop k)) rfl rfl HM.out HF3.out HU.out HSZ.out HF2.out HWM.out ?_; intro v1 w1 hl1 hf1)
    go_wp2_with fail
    go_ret
    exact ⟨v1, rfl, by rw [HWE.out]; exact hl1, hf1⟩
  · obtain ⟨q, hq⟩ : ∃ q, a - k = q := ⟨_, rfl⟩
    have hqi : (a : Int) - (k : Int) = (q : Int) := by omega
    have HWE := Aside0.mk (HW2.out hlt)
    rw [hq] at HWE
    have hq2 : q ≤ 140737488355328 := by omega
    have HWM : Aside0 ((wayL (ls.drop k) q).length ≤ 5864062014634) := ⟨by have := HWN.out; rw [HWE.out, List.length_append] at this; omega⟩
    clear HW1 HW2 HWN hq
    go_wp2_with fail
    refine (IH.out (N - k) (by omega) (ls.drop k) _ _ q w (by rw [List.length_drop, HN.out]) (HRS.out w (Fr.refl _ _)).2 (by omega) (by omega) (by omega) (fun l h => HL.out l (List.mem_of_mem_drop h)) HT.out).mono ?_
    rintro e w3 ⟨v, rfl, hm, hf⟩
    have HM := Aside0.mk hm; have HF := Aside0.mk hf
    clear hm hf
    go_wp2_with fail
    refine (over_calls k (ls.take k) _ _ w3 (by rw [List.length_take, HN.out]; omega) (HRS.out w3 HF.out).1 (by omega) (by omega) (fun l h => HL.out l (List.mem_of_mem_take h)) (HT.out.fr HF.out id)).mono ?_
    rintro e w4 ⟨u, rfl, hm, hf⟩
    obtain ⟨X, cx, rfl, hcx, hrx⟩ := hm.reads
    rw [tree_length] at hcx hm ⊢
    have HU := Aside0.mk hm; have HF2 := Aside0.mk (HF.out.then_ hf); have HF3 := Aside0.mk hf
    have HSZ := Aside0.mk HF.out.size
    clear hm hf hrx
    go_wp2_with (at_builtin; refine app_list (w0 := w) (W0 := w3) rfl (.tmp 43) (.tmp 45) 34 rfl Tryd.underlying34 infoRow v (.slice X 32 cx) (wayL (ls.drop k) q) (treeL (ls.take k)) rfl rfl HM.out HF3.out HU.out HSZ.out HF2.out HWM.out ?_; intro v1 w1 hl1 hf1)
    go_wp2_with fail
    go_ret
    exact ⟨v1, rfl, by rw [HWE.out]; exact hl1, hf1⟩
set_option maxRecDepth 100000 in
set_option maxHeartbeats 4000000 in
theorem refProve_calls (ls : LL) (a : Int) (A : Option Addr) (c : Nat) (w : World) (hr : Rbs w A ls) (hc : ls.length ≤ c) (hn : ls.length ≤ 5864062014634) (hl : ∀ l ∈ ls, l.length ≤ 140737488351232) (hK : KeysAt w) :
    Calls Tryd.prog 40 #[.slice A ls.length c, .int .i64 a] w fun e w' => ∃ v, e = .returned (.tuple #[v, .int .i64 (proveE ls a)]) ∧ LOwn w' w.heap.size v (proveB ls a) ∧ Fr No w w' := by
  have HR := Aside0.mk hr; have HL := Aside0.mk hl; have HT := Aside0.mk hK
  clear hr hl hK
  by_cases h : ls.length ≤ 65536
  · by_cases ha : 0 ≤ a ∧ a < ls.length
    · obtain ⟨ha0, ha1⟩ := ha
      obtain ⟨p, rfl⟩ : ∃ p : Nat, a = (p : Int) := ⟨a.toNat, by omega⟩
      have HE := Aside0.mk (prove_yes h (show p < ls.length by omega))
      go_enter Tryd.func40, Tryd.ntmps40
      go_wp2_with fail
      refine (refWay_calls ls.length ls A c p w rfl HR.out hc hn (by omega) HL.out HT.out).mono ?_
      rintro e w2 ⟨v, rfl, hm, hf⟩
      have HM := Aside0.mk hm
      have HF := Aside0.mk hf
      clear hm hf
      go_wp2_with fail
      go_ret2
      exact ⟨v, by rw [HE.out.1]; rfl, by rw [HE.out.2]; exact HM.out, HF.out⟩
    · have HE := Aside0.mk (prove_no h ha)
      have HX := Aside0.mk ha
      clear ha
      go_enter Tryd.func40, Tryd.ntmps40
      by_cases h0 : a < 0
      · go_wp2_with fail
        go_ret2
        exact ⟨.slice none 0 0, by rw [HE.out.1]; rfl, by rw [HE.out.2]; exact LOwn.nil _ _, Fr.refl _ _⟩
      · have h1 : (ls.length : Int) ≤ a := by have := HX.out; omega
        go_wp2_with fail
        go_ret2
        exact ⟨.slice none 0 0, by rw [HE.out.1]; rfl, by rw [HE.out.2]; exact LOwn.nil _ _, Fr.refl _ _⟩
  · have HE := Aside0.mk (prove_long (a := a) h)
    go_enter Tryd.func40, Tryd.ntmps40
    go_wp2_with fail
    go_ret2
    exact ⟨.slice none 0 0, by rw [HE.out.1]; rfl, by rw [HE.out.2]; exact LOwn.nil _ _, Fr.refl _ _⟩
end Go.Proofs.YtbaeddppihjgfaaDoor.Sg
