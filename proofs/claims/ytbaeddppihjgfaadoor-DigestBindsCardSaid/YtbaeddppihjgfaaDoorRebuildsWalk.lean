/- The walk of the law DigestRebuilds. (Printed by mk_rebuilds.py.) -/
import Derived.Test.YtbaeddppihjgfaaDoorTreeCome
import Derived.Test.YtbaeddppihjgfaaDoorRootsWalk
namespace Go.Proofs.YtbaeddppihjgfaaDoor.Sg
open Go Go.RowKit Go.Proofs.YtbaeddppihjgfaaDoorW.PrintWords
set_option linter.unusedVariables false
theorem proveB_32 (ls : LL) (a : Int) : ∀ p ∈ proveB ls a, p.length = 32 := by
  unfold proveB
  split
  · generalize a.toNat = t
    have key : ∀ n (ls : LL), ls.length = n → ∀ t, ∀ p ∈ wayL ls t, p.length = 32 := by
      intro n
      induction n using Nat.strongRecOn with
      | _ n ih =>
        intro ls hn t p hp
        by_cases h : n < 2
        · rw [way_few ls t (by omega)] at hp; cases hp
        · have c1 := cut_pos n
          have c2 := cut_lt (n := n) (by omega)
          by_cases ht : t < cutN n
          · rw [way_left ls t (by omega) (by rw [hn]; exact ht), hn] at hp
            rcases List.mem_append.1 hp with hp | hp
            · exact ih (cutN n) c2 _ (by simp; omega) t p hp
            · rw [List.mem_singleton.1 hp]; exact tree_length _
          · rw [way_right ls t (by omega) (by rw [hn]; exact ht), hn] at hp
            rcases List.mem_append.1 hp with hp | hp
            · exact ih (n - cutN n) (by omega) _ (by simp; omega) _ p hp
            · rw [List.mem_singleton.1 hp]; exact tree_length _
    exact key _ ls rfl t
  · intro p hp; simp at hp
theorem proveB_short (ls : LL) (a : Int) (hn : ls.length ≤ 5864062014634) : (proveB ls a).length ≤ 5864062014634 := by
  unfold proveB
  split
  · next h =>
    rw [way_length]
    have := steps_lt ls.length a.toNat (by omega)
    omega
  · simp
theorem one_reb : rebE 0 1 [] = 0 ∧ rebB [] 0 1 [] = sha [0] := by
  have h := reb_good (leaf := []) (a := 0) (n := 1) (ps := []) (by decide) (by decide) (by decide) (by rw [steps_few 0 1 (by decide)]; rfl) (fun p hp => by cases hp)
  rw [come_few [] 0 1 [] (by decide)] at h
  exact h
theorem one_hex : hexL (sha [0]) = roHex := by rw [ro_sha]; decide +kernel
theorem rebuild_walkN (leaf : List UInt8) (n1 m1 : Nat) (h1 : leaf.length = n1) (hleaf : leaf.length ≤ 140737488351232) (ps : LL) (h2 : ps.length = m1) (A B : Option Addr) (ca cb : Nat) (a n : Int) (w : World) (hrl : Rb w A leaf) (hca : n1 ≤ ca) (hr : Rbs w B ps) (hn : ps.length ≤ 5864062014634) (hl : ∀ l ∈ ps, l.length ≤ 140737488351232) (hK : KAt w) (hF : FirstAt w) :
    Calls Tryd.prog 38 #[.slice A n1 ca, .int .i64 a, .int .i64 n, .slice B m1 cb] w fun e w' => ∃ v, e = .returned (.tuple #[v, .int .i64 (rebE a n ps)]) ∧ Mine w' w.heap.size v (bi (rebB leaf a n ps)) ∧ Fr No w w' := by
  subst h1 h2
  exact rebuild_walk leaf hleaf ps A B ca cb a n w hrl hca hr hn hl hK hF
theorem refRebuild_callsN (leaf : List UInt8) (n1 m1 : Nat) (h1 : leaf.length = n1) (hleaf : leaf.length ≤ 140737488351232) (ps : LL) (h2 : ps.length = m1) (A B : Option Addr) (ca cb : Nat) (a n : Int) (w : World) (hrl : Rb w A leaf) (hr : Rbs w B ps) (hc : ps.length ≤ cb) (hn : ps.length ≤ 5864062014634) (hl : ∀ l ∈ ps, l.length ≤ 140737488351232) (hK : KeysAt w) :
    Calls Tryd.prog 39 #[.slice A n1 ca, .int .i64 a, .int .i64 n, .slice B m1 cb] w fun e w' => ∃ v, e = .returned (.tuple #[v, .int .i64 (rebE a n ps)]) ∧ Mine w' w.heap.size v (bi (rebB leaf a n ps)) ∧ Fr No w w' := by
  subst h1 h2
  exact refRebuild_calls leaf hleaf ps A B ca cb a n w hrl hr hc hn hl hK
theorem kept_callsN (l : List UInt8) (n1 : Nat) (h1 : l.length = n1) (g : Nat) (A : Option Addr) (c : Nat) (w : World) (hm : Room w g l) (hr : Rb w A l) (hl : l.length ≤ 140737488351232) :
    Calls Tryd.prog 20 #[.slice (some ⟨g, 0, none⟩) n1 (n1 + 6), .slice A n1 c] w fun e w' => e = .returned (.bool true) ∧ w = w' := by
  subst h1
  exact kept_calls l g A c w hm hr hl
theorem sameAll_callsN (ls : LL) (n1 : Nat) (h1 : ls.length = n1) (A B : Option Addr) (c d : Nat) (w : World) (ha : Rbs w A ls) (hb : Rbs w B ls) :
    Calls Tryd.prog 37 #[.slice A n1 c, .slice B n1 d] w fun e w' => e = .returned (.bool true) ∧ Fr No w w' := by
  subst h1
  exact (sameAll_calls ls ls A B c d w ha hb).mono fun e w' ⟨he, hf⟩ => ⟨by rw [he, decide_eq_true rfl], hf⟩
set_option maxRecDepth 100000 in
set_option maxHeartbeats 4000000 in
theorem rebuilds_walk (w : World) (ls : LL) (A0 : Option Addr) (c0 : Nat) (hr0 : Rbs w A0 ls) (hc0 : ls.length ≤ c0) (hn0 : ls.length ≤ 5864062014634) (hl0 : ∀ l ∈ ls, l.length ≤ 140737488351232) (a : Int) (ha : (Lit.int .i64 a).wf = true)
    (leaf : List UInt8) (A1 : Option Addr) (c1 : Nat) (hr1 : Rb w A1 leaf) (hc1 : leaf.length ≤ c1) (hl1 : leaf.length ≤ 140737488351232) (n : Int) (hn : (Lit.int .i64 n).wf = true)
    (ps : LL) (A2 : Option Addr) (c2 : Nat) (hr2 : Rbs w A2 ps) (hc2 : ps.length ≤ c2) (hn2 : ps.length ≤ 5864062014634) (hl2 : ∀ l ∈ ps, l.length ≤ 140737488351232) (hK : KAt w) (hF : FirstAt w) (hQ : KeysAt w) :
    Calls Tryd.prog 11 #[.slice A0 ls.length c0, .int .i64 a, .slice A1 leaf.length c1, .int .i64 n, .slice A2 ps.length c2] w fun e w' => e = .returned (.bool true) ∧ Fr No w w' := by
  have HT := Aside0.mk (And.intro hK (And.intro hF hQ)); have HL0 := Aside0.mk hl0; have HL2 := Aside0.mk hl2
  have HR0 := Aside0.mk hr0; have HR1 := Aside0.mk hr1; have HR2 := Aside0.mk hr2
  have HC := Aside0.mk (And.intro hc0 (And.intro hc1 hc2))
  clear hr0 hr1 hr2 hl0 hl2 hK hF hQ hc0 hc1 hc2 ha hn
  have hee : (rebE a n ps == rebE a n ps) = true := beq_self_eq_true _
  go_enter Tryd.func11, Tryd.ntmps11
  go_wp2_with fail
  refine (roomyAll_calls ps A2 c2 w HR2.out hn2 HL2.out).mono ?_
  rintro e w1 ⟨B, g, x1, x2, rfl, hm, hs, hf⟩
  have HM := Aside0.mk hm; have HS := Aside0.mk hs; have HF := Aside0.mk hf
  clear hm hs hf
  go_wp2_with fail
  have HZ : Aside0 (B < w1.heap.size ∧ x1 < w1.heap.size ∧ x2 < w1.heap.size ∧ w.heap.size ≤ w1.heap.size) := ⟨HM.out.tab.lt, HM.out.b1.lt, HM.out.b2.lt, HF.out.size⟩
  have HZ2 : Aside0 (∀ i, i < ps.length → g i < w1.heap.size) := ⟨fun i hi => Blk.lt (HM.out.room i hi)⟩
  refine (roomy_calls leaf A1 c1 w1 (C_fr HR1.out HF.out) hl1).mono ?_
  rintro e w2 ⟨o, rfl, ho, hm, hf⟩
  replace HM := Aside0.mk (HM.out.fr (S := No) hf)
  replace HF := Aside0.mk (HF.out.then_ hf)
  have HO := Aside0.mk hm
  have HOB : Aside0 (o ≠ B ∧ (∀ i, i < ps.length → o ≠ g i) ∧ o ≠ x1 ∧ o ≠ x2 ∧ w.heap.size ≤ o) := ⟨by have := HZ.out; omega, fun i hi => by have := HZ2.out i hi; omega, by have := HZ.out; omega, by have := HZ.out; omega, by have := HZ.out; omega⟩
  clear hm hf ho
  go_wp2_with fail
  refine (rebuild_walk leaf hl1 ps _ _ (leaf.length + 6) (ps.length + 2) a n w2 (HO.out.le hl1) (by omega) HM.out.reads hn2 HL2.out (HT.out.1.fr HF.out id) (HT.out.2.1.fr HF.out id)).mono ?_
  rintro e w3 ⟨v, rfl, hm, hf⟩
  replace HM := Aside0.mk (HM.out.fr (S := No) hf)
  replace HF := Aside0.mk (HF.out.then_ hf)
  replace HO := Aside0.mk (Blk.fr HO.out hf id)
  obtain ⟨X, cx, rfl, hcx, hrx⟩ := hm.reads
  have HX := Aside0.mk hrx
  clear hm hf hrx hcx
  go_wp2_with fail
  refine (refRebuild_calls leaf hl1 ps A1 A2 c1 c2 a n w3 (C_fr HR1.out HF.out) (HR2.out.fr HF.out) HC.out.2.2 hn2 HL2.out (HT.out.2.2.fr HF.out id)).mono ?_
  rintro e w4 ⟨v, rfl, hm, hf⟩
  replace HM := Aside0.mk (HM.out.fr (S := No) hf)
  replace HF := Aside0.mk (HF.out.then_ hf)
  replace HO := Aside0.mk (Blk.fr HO.out hf id)
  replace HX := Aside0.mk (C_fr HX.out hf)
  obtain ⟨Y, cy, rfl, hcy, hry⟩ := hm.reads
  have HY := Aside0.mk hry
  generalize rebB leaf a n ps = rb at *
  generalize rebE a n ps = re at *
  clear hm hf hry hcy
  go_wp2_with fail
  refine (same_calls rb rb _ _ _ _ _ HX.out HY.out).mono ?_
  rintro e w5 ⟨rfl, rfl⟩
  go_wp2_with fail
  refine (numR_calls _ _).mono ?_
  rintro e w5 ⟨rfl, rfl⟩
  go_wp2_with fail
  clear HX HY
  refine (keptAll_calls ps B g x1 x2 A2 c2 w4 HM.out (HR2.out.fr HF.out)).mono ?_
  rintro e w5 ⟨rfl, hf⟩
  replace HM := Aside0.mk (HM.out.fr (S := No) hf)
  replace HF := Aside0.mk (HF.out.then_ hf)
  replace HO := Aside0.mk (Blk.fr HO.out hf id)
  clear hf
  go_wp2_with fail
  refine (kept_calls leaf o A1 c1 w5 HO.out (C_fr HR1.out HF.out) hl1).mono ?_
  rintro e w6 ⟨rfl, rfl⟩
  go_wp2_with fail
  have HLO : Aside0 (∀ b, Its B g ps.length b → b ≠ o ∧ w.heap.size ≤ b ∧ b < w5.heap.size) := ⟨fun b hb => by
    rcases hb with rfl | ⟨i, hi, rfl⟩
    · exact ⟨fun e => HOB.out.1 e.symm, HS.out.b, HM.out.tab.lt⟩
    · exact ⟨fun e => HOB.out.2.1 i hi e.symm, HS.out.g i hi, Blk.lt (HM.out.room i hi)⟩⟩
  refine (flipped_calls leaf o w5 HO.out hl1).mono ?_
  rintro e w7 ⟨lv, rfl, hv, hm, hf⟩
  replace HM := Aside0.mk (HM.out.frS hf (fun b hb => .inr (by subst hb; exact ⟨HOB.out.1, HOB.out.2.1, HOB.out.2.2.1, HOB.out.2.2.2.1⟩)))
  replace HF := Aside0.mk (HF.out.trans hf (fun b hb => .inr (by subst hb; exact HOB.out.2.2.2.2)))
  replace HO := Aside0.mk (Blk.lt HO.out)
  have HV : Aside0 (Mine w7 w5.heap.size lv (bi (leaf.map flip1))) := ⟨hv⟩
  have HO := Aside0.mk hm
  clear hv hm hf
  have HLL : Aside0 ((leaf.map flip1).length = leaf.length) := ⟨List.length_map _⟩
  generalize leaf.map flip1 = leaf2 at *
  go_wp2_with fail
  refine (flippedAll_calls ps B g x1 x2 w7 HM.out).mono ?_
  rintro e w8 ⟨A3, c3, rfl, hc3, hr3, hm3, hf⟩
  replace HM := Aside0.mk (True.intro)
  replace HF := Aside0.mk (HF.out.trans hf (fun b hb => .inr (HLO.out b hb).2.1))
  replace HO := Aside0.mk (Blk.fr HO.out hf (fun h => (HLO.out _ h).1 rfl))
  replace HV := Aside0.mk (HV.out.fr' hf (fun k hk h => by have := (HLO.out k h).2.2; omega))
  have HM := Aside0.mk hm3
  have HR3 := Aside0.mk hr3
  obtain ⟨L, cl, rfl, hcl, hrl⟩ := HV.out.reads
  rw [HLL.out] at hcl ⊢
  have HV := Aside0.mk hrl
  clear hr3 hm3 hf hrl hcl
  have HMS : Aside0 ((ps.reverse.map (·.map flip1)).length = ps.length) := ⟨by simp⟩
  have HLM := Aside0.mk (flip_small HL2.out)
  have HC3 := Aside0.mk hc3
  clear hc3
  generalize (fun j => g (ps.length - 1 - j)) = g2 at *
  generalize ps.reverse.map (·.map flip1) = ms at *
  have hee2 : (rebE a n ms == rebE a n ms) = true := beq_self_eq_true _
  clear hee
  go_wp2_with fail
  refine (rebuild_walkN leaf2 _ _ HLL.out (by rw [HLL.out]; exact hl1) ms HMS.out _ _ (leaf.length + 6) (ps.length + 2) a n w8 (Room.le (l := leaf2) HO.out (by rw [HLL.out]; exact hl1)) (by omega) HM.out.reads (by rw [HMS.out]; exact hn2) HLM.out (HT.out.1.fr HF.out id) (HT.out.2.1.fr HF.out id)).mono ?_
  rintro e w9 ⟨v, rfl, hm, hf⟩
  replace HM := Aside0.mk (HM.out.fr (S := No) hf)
  replace HF := Aside0.mk (HF.out.then_ hf)
  replace HO := Aside0.mk (Blk.fr HO.out hf id)
  replace HV := Aside0.mk (C_fr HV.out hf)
  replace HR3 := Aside0.mk (HR3.out.fr hf)
  obtain ⟨X, cx, rfl, hcx, hrx⟩ := hm.reads
  have HX := Aside0.mk hrx
  clear hm hf hrx hcx
  go_wp2_with fail
  refine (refRebuild_callsN leaf2 _ _ HLL.out (by rw [HLL.out]; exact hl1) ms HMS.out L A3 cl c3 a n w9 HV.out HR3.out (by rw [HMS.out]; exact HC3.out) (by rw [HMS.out]; exact hn2) HLM.out (HT.out.2.2.fr HF.out id)).mono ?_
  rintro e w10 ⟨v, rfl, hm, hf⟩
  replace HM := Aside0.mk (HM.out.fr (S := No) hf)
  replace HF := Aside0.mk (HF.out.then_ hf)
  replace HO := Aside0.mk (Blk.fr HO.out hf id)
  replace HV := Aside0.mk (C_fr HV.out hf)
  replace HR3 := Aside0.mk (HR3.out.fr hf)
  replace HX := Aside0.mk (C_fr HX.out hf)
  obtain ⟨Y, cy, rfl, hcy, hry⟩ := hm.reads
  have HY := Aside0.mk hry
  generalize rebB leaf2 a n ms = rb2 at *
  generalize rebE a n ms = re2 at *
  clear hm hf hry hcy
  go_wp2_with fail
  refine (same_calls rb2 rb2 _ _ _ _ _ HX.out HY.out).mono ?_
  rintro e w11 ⟨rfl, rfl⟩
  go_wp2_with fail
  refine (numR_calls _ _).mono ?_
  rintro e w11 ⟨rfl, rfl⟩
  go_wp2_with fail
  clear HX HY
  have HMR := Aside0.mk HM.out.reads
  refine (sameAll_callsN ms _ HMS.out _ _ _ _ w10 HMR.out HR3.out).mono ?_
  rintro e w11 ⟨rfl, hf⟩
  replace HM := Aside0.mk (HM.out.fr (S := No) hf)
  replace HF := Aside0.mk (HF.out.then_ hf)
  replace HO := Aside0.mk (Blk.fr HO.out hf id)
  replace HV := Aside0.mk (C_fr HV.out hf)
  replace HR3 := Aside0.mk (HR3.out.fr hf)
  replace HMR := Aside0.mk (HMR.out.fr hf)
  clear hf
  go_wp2_with fail
  clear HMR HR3 HM
  refine (kept_callsN leaf2 _ HLL.out o L cl w11 HO.out HV.out (by rw [HLL.out]; exact hl1)).mono ?_
  rintro e w12 ⟨rfl, rfl⟩
  go_wp2_with fail
  clear HO HV
  refine (refProve_calls ls a A0 c0 w11 (HR0.out.fr HF.out) HC.out.1 hn0 HL0.out (HT.out.2.2.fr HF.out id)).mono ?_
  rintro e w12 ⟨v, rfl, hm, hf⟩
  replace HF := Aside0.mk (HF.out.then_ hf)
  obtain ⟨U, cu, rfl, hcu, hru⟩ := hm.reads
  have HU := Aside0.mk hru
  have H32 := Aside0.mk (proveB_32 ls a)
  have HPS := Aside0.mk (proveB_short ls a hn0)
  have HCU := Aside0.mk hcu
  generalize proveB ls a = pb at *
  have HPL : Aside0 (∀ l ∈ pb, l.length ≤ 140737488351232) := ⟨fun l hl => by rw [H32.out l hl]; decide⟩
  clear hm hf hru hcu hee2
  go_wp2_with fail
  refine (roomyAll_calls pb U cu w12 HU.out HPS.out HPL.out).mono ?_
  rintro e w13 ⟨B4, g4, x5, x6, rfl, hm, hs, hf⟩
  replace HF := Aside0.mk (HF.out.then_ hf)
  replace HU := Aside0.mk (HU.out.fr hf)
  have HM := Aside0.mk hm.reads
  clear hm hs hf
  go_wp2_with fail
  have hee3 : (rebE a (ls.length : Int) pb == rebE a (ls.length : Int) pb) = true := beq_self_eq_true _
  refine (rebuild_walk leaf hl1 pb A1 _ c1 (pb.length + 2) a (ls.length : Int) w13 (C_fr HR1.out HF.out) HC.out.2.1 HM.out HPS.out HPL.out (HT.out.1.fr HF.out id) (HT.out.2.1.fr HF.out id)).mono ?_
  rintro e w14 ⟨v, rfl, hm, hf⟩
  replace HF := Aside0.mk (HF.out.then_ hf)
  replace HU := Aside0.mk (HU.out.fr hf)
  replace HM := Aside0.mk (HM.out.fr hf)
  obtain ⟨X, cx, rfl, hcx, hrx⟩ := hm.reads
  have HX := Aside0.mk hrx
  clear hm hf hrx hcx
  go_wp2_with fail
  refine (refRebuild_calls leaf hl1 pb A1 U c1 cu a (ls.length : Int) w14 (C_fr HR1.out HF.out) HU.out HCU.out HPS.out HPL.out (HT.out.2.2.fr HF.out id)).mono ?_
  rintro e w15 ⟨v, rfl, hm, hf⟩
  replace HF := Aside0.mk (HF.out.then_ hf)
  replace HU := Aside0.mk (HU.out.fr hf)
  replace HM := Aside0.mk (HM.out.fr hf)
  replace HX := Aside0.mk (C_fr HX.out hf)
  obtain ⟨Y, cy, rfl, hcy, hry⟩ := hm.reads
  have HY := Aside0.mk hry
  generalize rebB leaf a (ls.length : Int) pb = rb3 at *
  generalize rebE a (ls.length : Int) pb = re3 at *
  clear hm hf hry hcy
  go_wp2_with fail
  clear HU HM
  refine (rebuild_walk [] (by simp) [] none none 0 0 0 1 w15 (Rb_none w15) (by simp) ⟨rfl, by simp, fun h => absurd h (by simp)⟩ (by simp) (by simp) (HT.out.1.fr HF.out id) (HT.out.2.1.fr HF.out id)).mono ?_
  rintro e w16 ⟨v, rfl, hm, hf⟩
  replace HF := Aside0.mk (HF.out.then_ hf)
  replace HX := Aside0.mk (C_fr HX.out hf)
  replace HY := Aside0.mk (C_fr HY.out hf)
  rw [one_reb.2] at hm
  rw [one_reb.1]
  obtain ⟨Z, cz, rfl, hcz, hrz⟩ := hm.reads
  have HZZ := Aside0.mk hrz
  have HZH := Aside0.mk one_hex
  have HZN := Aside0.mk (sha_length [0])
  clear hm hf hrz hcz
  generalize sha [0] = z at *
  go_wp2_with fail
  refine (same_calls rb3 rb3 _ _ _ _ _ HX.out HY.out).mono ?_
  rintro e w17 ⟨rfl, rfl⟩
  go_wp2_with fail
  refine (numR_calls _ _).mono ?_
  rintro e w17 ⟨rfl, rfl⟩
  go_wp2_with fail
  refine (numR_calls _ _).mono ?_
  rintro e w17 ⟨rfl, rfl⟩
  go_wp2_with fail
  clear HX HY
  refine (refHex_calls z Z cz w16 HZZ.out (by rw [HZN.out]; decide)).mono ?_
  rintro e w17 ⟨rfl, hf⟩
  replace HF := Aside0.mk (HF.out.then_ hf)
  replace HZZ := Aside0.mk (C_fr HZZ.out hf)
  rw [HZH.out]
  unfold roHex
  clear hf
  go_wp2_with fail
  go_ret
  exact ⟨by simp, HF.out⟩
end Go.Proofs.YtbaeddppihjgfaaDoor.Sg
