/- The walk of the law DigestBinds. (Printed by mk_binds.py.) -/
import Derived.Test.YtbaeddppihjgfaaDoorUps
import Derived.Test.YtbaeddppihjgfaaDoorRegionB
namespace Go.Proofs.YtbaeddppihjgfaaDoor.Sg
open Go Go.RowKit Go.Proofs.YtbaeddppihjgfaaDoorW.PrintWords
set_option linter.unusedVariables false
theorem reb_ok {a n : Nat} {ps : LL} (h : rebOk a n ps = true) : ps.length = stepsN a n ∧ ∀ p ∈ ps, p.length = 32 := by
  unfold rebOk at h
  rw [Bool.and_eq_true, Bool.and_eq_true, decide_eq_true_eq, List.all_eq_true] at h
  exact ⟨by simpa using h.2.1, fun p hp => by simpa using h.2.2 p hp⟩
/-- A way whose first digests are those of another list that are digests. -/
def blendL (ps wl : LL) (k : Nat) : LL := (List.range wl.length).map fun i => if i < k ∧ (ps.getD i []).length = 32 then ps.getD i [] else wl.getD i []
theorem blend_length (ps wl : LL) (k : Nat) : (blendL ps wl k).length = wl.length := by simp [blendL]
theorem blend_zero (ps wl : LL) : blendL ps wl 0 = wl := by
  apply List.ext_getElem
  · simp [blendL]
  · intro i h1 h2
    simp [blendL, List.getD_eq_getElem?_getD, List.getElem?_eq_getElem h2]
theorem blend_32 (ps wl : LL) (k : Nat) (h : ∀ p ∈ wl, p.length = 32) : ∀ p ∈ blendL ps wl k, p.length = 32 := fun p hp => by
  unfold blendL at hp
  obtain ⟨i, hi, rfl⟩ := List.mem_map.1 hp
  have hi2 := List.mem_range.1 hi
  split
  · next h => exact h.2
  · rw [List.getD_eq_getElem?_getD, List.getElem?_eq_getElem hi2]; exact h _ (List.getElem_mem hi2)
theorem blend_yes (ps wl : LL) (k : Nat) (hk : k < wl.length) (x : List UInt8) (hx : ps.getD k [] = x) (h : x.length = 32) : blendL ps wl (k + 1) = (blendL ps wl k).set k x := by
  subst hx
  apply List.ext_getElem
  · simp [blendL]
  · intro i h1 h2
    rw [List.getElem_set]
    by_cases e : k = i
    · subst e
      rw [if_pos rfl]
      simp only [blendL, List.getElem_map, List.getElem_range]
      rw [if_pos ⟨by omega, h⟩]
    · rw [if_neg e]
      simp only [blendL, List.getElem_map, List.getElem_range]
      by_cases h3 : i < k ∧ (ps.getD i []).length = 32
      · rw [if_pos h3, if_pos ⟨by omega, h3.2⟩]
      · rw [if_neg h3, if_neg (fun h4 => h3 ⟨by omega, h4.2⟩)]
theorem blend_no (ps wl : LL) (k : Nat) (h : (ps.getD k []).length ≠ 32) : blendL ps wl (k + 1) = blendL ps wl k := by
  apply List.ext_getElem
  · simp [blendL]
  · intro i h1 h2
    simp only [blendL, List.getElem_map, List.getElem_range]
    by_cases h3 : i < k ∧ (ps.getD i []).length = 32
    · rw [if_pos h3, if_pos ⟨by omega, h3.2⟩]
    · rw [if_neg h3, if_neg (fun h4 => h3 ⟨by
        have : i ≠ k := fun e => by subst e; exact h h4.2
        omega, h4.2⟩)]
/-- A row of lists in block g: what its lists hold no store into g changes. -/
def TabR (w6 wr : World) (g : Nat) (ms : LL) : Prop := ∃ cur : Array Value, wr.heap[g]? = some (.cells cur 22 (0, 0)) ∧ ms.length ≤ cur.size ∧ ∀ i (hi : i < ms.length), ∃ Ai ci, cur[i]? = some (.slice Ai ms[i].length ci) ∧ ms[i].length ≤ ci ∧ ∀ W, Fr (fun b => b = g) w6 W → Rb W Ai ms[i]
theorem own_tab {w : World} {base g n c : Nat} {ls : LL} (h : LOwn w base (.slice (some ⟨g, 0, none⟩) n c) ls) (hp : 0 < ls.length) : TabR w w g ls := by
  obtain ⟨h0, inner, hown, hr⟩ := Kd.S_R h
  have hob : (Value.slice (some ⟨g, 0, none⟩) n c).ownBlock = some g := by simp [Value.ownBlock]
  rcases hown.2 with ⟨he, _⟩ | ⟨g', cap, cur, he, hg, hh, hnc, hcs, hlen⟩
  · simp at he
  · obtain ⟨rfl, _, _⟩ : g = g' ∧ n = _ ∧ c = _ := by simpa using he
    have hil : inner.length = ls.length := by have := hr.1; simpa [Kd.slice] using this
    have hcell : ∀ j (u : Value), inner[j]? = some u → cur[j]? = some u := fun j u hu => by
      have h1 := hown.cells (g := g) hob j u hu
      rw [add_plain] at h1
      simp only [World.cell?, hh] at h1
      simpa using h1
    refine ⟨cur, hh, ?_, fun i hi => ?_⟩
    · have hl1 : ls.length - 1 < inner.length := by omega
      have := hcell (ls.length - 1) _ (List.getElem?_eq_getElem hl1)
      have := (Array.getElem?_eq_some_iff.1 this).1
      omega
    · have hm := hr.2 i (bi ls[i]) (by simp [hi])
      obtain ⟨v, hv, hR⟩ := hm
      have hiv : inner[i]? = some v := by
        have : ((inner.drop (i * KB.sz)).take KB.sz)[0]? = some v := by rw [hv]; rfl
        simpa [Kd.slice, List.getElem?_take] using this
      obtain ⟨A, cA, hA, hcA, hrA⟩ := Kd.R_reads hR
      rw [bi_length] at hA hcA
      refine ⟨A, cA, by rw [hcell i v hiv, hA], hcA, fun W hf => ?_⟩
      have hR2 : Kd.R (Kd.int .u8) 5 W base _ v (bi ls[i]) := Kd.R_step hR (fun k hk hlt => hf.block k hlt (fun e => hk.2 (by rw [hob, e])))
      obtain ⟨A2, c2, hA2, _, hr2⟩ := Kd.R_reads hR2
      rw [hA] at hA2
      obtain ⟨rfl, _, _⟩ : A = A2 ∧ _ ∧ _ := by simpa using hA2
      unfold Rb
      rw [bi_length] at hr2
      exact hr2
theorem TabR.cell {w6 wr : World} {g : Nat} {ms : LL} (h : TabR w6 wr g ms) (i : Nat) (hi : i < ms.length) : ∃ v, wr.cell? ⟨g, i, none⟩ = some v := by
  obtain ⟨cur, hh, _, hc⟩ := h
  obtain ⟨Ai, ci, h1, _⟩ := hc i hi
  exact ⟨_, by simp only [World.cell?, hh]; simpa using h1⟩
theorem TabR.free {w6 wr : World} {g : Nat} {ms : LL} (h : TabR w6 wr g ms) (i : Nat) : wr.frozen? ⟨g, i, none⟩ = false := by
  obtain ⟨cur, hh, _⟩ := h
  simp [World.frozen?, hh]
theorem TabR.set {w6 wr : World} {g : Nat} {ms : LL} (h : TabR w6 wr g ms) (k : Nat) (hk : k < ms.length) (x : List UInt8) (A : Option Addr) (c : Nat) (hc : x.length ≤ c) (hr : ∀ W, Fr (fun b => b = g) w6 W → Rb W A x) : TabR w6 (wr.setCell ⟨g, k, none⟩ (.slice A x.length c)) g (ms.set k x) := by
  obtain ⟨cur, hh, hl, hcs⟩ := h
  refine ⟨cur.setIfInBounds k (.slice A x.length c), ?_, by simpa using hl, fun i hi => ?_⟩
  · simp [World.setCell, Array.getElem?_modify, hh]
  · rw [List.length_set] at hi
    rw [Array.getElem?_setIfInBounds]
    by_cases e : k = i
    · subst e
      rw [if_pos rfl, if_pos (by omega)]
      simp only [List.getElem_set_self]
      exact ⟨A, c, rfl, hc, hr⟩
    · rw [if_neg e]
      simp only [List.getElem_set_ne e]
      exact hcs i hi
theorem TabR.reads {w6 wr : World} {g : Nat} {ms : LL} (h : TabR w6 wr g ms) (hf : Fr (fun b => b = g) w6 wr) (hn : ms.length ≤ 9223372036854775807) : Rbs wr (some ⟨g, 0, none⟩) ms := by
  obtain ⟨cur, hh, hl, hcs⟩ := h
  refine Rbs.mk_ hn (fun i hi => ?_)
  obtain ⟨Ai, ci, h1, h2, h3⟩ := hcs i hi
  exact ⟨Ai, ci, by simp only [World.cell?, hh]; simpa using h1, h2, h3 wr hf⟩
theorem binds_end (leaf l : List UInt8) (a n : Nat) (ps qs : LL) (h1 : ps.length = stepsN a n) (h2 : qs.length = stepsN a n) (h3 : ∀ p ∈ ps, p.length = 32) (h4 : ∀ p ∈ qs, p.length = 32)
    (hn : ∀ j (k1 : j < (upsL leaf a n ps).length) (k2 : j < (upsL l a n qs).length), sha (upsL leaf a n ps)[j] = sha (upsL l a n qs)[j] → (upsL leaf a n ps)[j] = (upsL l a n qs)[j])
    (he : comeL leaf a n ps = comeL l a n qs) : leaf = l := by
  have := binds_law (turnsW a n) ps qs (0 :: leaf) (0 :: l) h1 h2 h3 h4 hn he
  simpa using this
def colS : Nat → Nat := fun i => 193 + i
theorem same_callsNN (a b : List UInt8) (n m : Nat) (hn : a.length = n) (hm : b.length = m) (A B : Option Addr) (c d : Nat) (w : World) (ha : Rb w A a) (hb : Rb w B b) :
    Calls Tryd.prog 23 #[.slice A n c, .slice B m d] w fun e w' => e = .returned (.bool (decide (a = b))) ∧ w = w' := by
  subst hn hm
  exact same_calls a b A B c d w ha hb
/-- What the operations of the last region yield: the two lists are unlike (x), or not. -/
def colF (x : Bool) (xd yd : Addr) (nx cx ny cy k : Nat) (Xi Yi : Option Addr) (cxi cyi : Nat) (xl yl : List UInt8) (r : Bool) : Nat → Value → World → Prop
  | 0, v, _ => v = .slice (some xd) nx cx
  | 1, v, _ => v = .int .i64 k
  | 2, v, _ => v = .pointer (some (xd.add k))
  | 3, v, _ => v = .slice Xi xl.length cxi
  | 4, v, _ => v = .slice (some yd) ny cy
  | 5, v, _ => v = .int .i64 k
  | 6, v, _ => v = .pointer (some (yd.add k))
  | 7, v, _ => v = .slice Yi yl.length cyi
  | 8, v, _ => v = .bool (!x)
  | 9, v, _ => v = .bool x
  | 10, v, _ => v = .bool x
  | 11, v, _ => x = true → v = .slice (some xd) nx cx
  | 12, v, _ => x = true → v = .int .i64 k
  | 13, v, _ => x = true → v = .pointer (some (xd.add k))
  | 14, v, _ => x = true → v = .slice Xi xl.length cxi
  | 15, v, W => x = true → RdV W v (sha xl)
  | 16, v, _ => x = true → v = .slice (some yd) ny cy
  | 17, v, _ => x = true → v = .int .i64 k
  | 18, v, _ => x = true → v = .pointer (some (yd.add k))
  | 19, v, _ => x = true → v = .slice Yi yl.length cyi
  | 20, v, W => x = true → RdV W v (sha yl)
  | 21, v, _ => x = true → v = .bool r
  | _, v, _ => v = .bool (x && r)
theorem colF_fr {x : Bool} {xd yd : Addr} {nx cx ny cy k : Nat} {Xi Yi : Option Addr} {cxi cyi : Nat} {xl yl : List UInt8} {r : Bool} {W W' : World} {j : Nat} {u : Value} (hf : Fr No W W') (h : colF x xd yd nx cx ny cy k Xi Yi cxi cyi xl yl r j u W) : colF x xd yd nx cx ny cy k Xi Yi cxi cyi xl yl r j u W' := by
  match j, h with
  | 0, h => exact h
  | 1, h => exact h
  | 2, h => exact h
  | 3, h => exact h
  | 4, h => exact h
  | 5, h => exact h
  | 6, h => exact h
  | 7, h => exact h
  | 8, h => exact h
  | 9, h => exact h
  | 10, h => exact h
  | 11, h => exact h
  | 12, h => exact h
  | 13, h => exact h
  | 14, h => exact h
  | 15, h => exact fun hx => RdV.gr (h hx) (Gr.of_fr hf)
  | 16, h => exact h
  | 17, h => exact h
  | 18, h => exact h
  | 19, h => exact h
  | 20, h => exact fun hx => RdV.gr (h hx) (Gr.of_fr hf)
  | 21, h => exact h
  | _ + 22, h => exact h
set_option maxRecDepth 100000 in
set_option maxHeartbeats 8000000 in
theorem binds_walk (w : World) (ls : LL) (A : Option Addr) (c : Nat) (hr : Rbs w A ls) (hc : ls.length ≤ c) (hn : ls.length ≤ 5864062014634) (hl : ∀ l ∈ ls, l.length ≤ 140737488351232) (a : Int) (ha : (Lit.int .i64 a).wf = true)
    (leaf : List UInt8) (A1 : Option Addr) (c1 : Nat) (hr1 : Rb w A1 leaf) (hc1 : leaf.length ≤ c1) (hl1 : leaf.length ≤ 140737488351232)
    (ps : LL) (A2 : Option Addr) (c2 : Nat) (hr2 : Rbs w A2 ps) (hcp : ps.length ≤ c2) (hn2 : ps.length ≤ 5864062014634) (hl2 : ∀ l ∈ ps, l.length ≤ 140737488351232) (own : Bool) (hK : KAt w) (hF : FirstAt w) :
    Calls Tryd.prog 15 #[.slice A ls.length c, .int .i64 a, .slice A1 leaf.length c1, .slice A2 ps.length c2, .bool own] w fun e w' => e = .returned (.bool true) ∧ Fr No w w' := by
  have HT := Aside0.mk (And.intro hK hF)
  have HR1 := Aside0.mk hr1; have HR2 := Aside0.mk hr2; have HL2 := Aside0.mk hl2; have HCP := Aside0.mk hcp
  obtain ⟨M, hM⟩ : ∃ M, min 300 ls.length = M := ⟨_, rfl⟩
  have HRM : Aside0 (Rbs w A (ls.take M)) := ⟨Rbs_take hr M (by omega)⟩
  have HML : Aside0 ((ls.take M).length = M) := ⟨by rw [List.length_take]; omega⟩
  have HLM : Aside0 (∀ l ∈ ls.take M, l.length ≤ 140737488351232) := ⟨fun l h => hl l (List.mem_of_mem_take h)⟩
  have HM0 := Aside0.mk hM
  have hM3 : M ≤ 300 := by omega
  have hMc : M ≤ c := by omega
  clear hr hl hr1 hr2 hl2 hcp hK hF hM ha
  generalize ls.take M = ms at *
  go_enter Tryd.func15, Tryd.ntmps15
  go_wp2_with fail
  have hrw := nil_rows w
  have hfa : Fr No w (w.alloc (.cells #[.slice none 0 0] 22)) := (Fr.refl No w).alloc _
  generalize w.alloc (.cells #[.slice none 0 0] 22) = W at hrw hfa ⊢
  have HRW := Aside0.mk hrw
  have HF := Aside0.mk hfa
  clear hrw hfa
  refine (root_walkN [[]] 1 rfl (by decide) _ 1 W HRW.out (by decide) (by simp) (HT.out.1.fr HF.out id) (HT.out.2.fr HF.out id)).mono ?_
  rintro e w3 ⟨v, rfl, hm, hf⟩
  replace HF := Aside0.mk (HF.out.then_ hf)
  rw [tree_one] at hm
  obtain ⟨O, co, rfl, hco, hro⟩ := hm.reads
  have HO := Aside0.mk hro
  have HZH := Aside0.mk one_hex
  have HZN := Aside0.mk (sha_length [0])
  clear hm hf hro hco HRW
  generalize sha [0] = z at *
  go_wp2_with fail
  refine (numR_calls _ _).mono ?_
  rintro e w4 ⟨rfl, rfl⟩
  go_wp2_with fail
  refine (refHex_calls z O co w3 HO.out (by rw [HZN.out]; decide)).mono ?_
  rintro e w4 ⟨rfl, hf⟩
  replace HF := Aside0.mk (HF.out.then_ hf)
  replace HO := Aside0.mk (C_fr HO.out hf)
  rw [HZH.out]
  unfold roHex
  clear hf
  clear HO
  go_upto_if 41 with fail
  go_cut [0] (fun s0 wx => wx = w4 ∧ s0 = .slice A M c)
  case first =>
    by_cases h300 : 300 < ls.length
    · have hM2 : M = 300 := by have := HM0.out; omega
      go_wp2_with fail
      go_meet
      exact ⟨rfl, by rw [hM2]⟩
    · have hM2 : M = ls.length := by have := HM0.out; omega
      go_wp2_with fail
      go_meet
      exact ⟨rfl, by rw [hM2]⟩
  case rest =>
    obtain ⟨hwc, rfl⟩ := hcut
    rw [hwc]
    clear hwc
    go_wp2_with fail
    refine (root_walkN ms M HML.out (by omega) A c w4 (HRM.out.fr HF.out) hMc HLM.out (HT.out.1.fr HF.out id) (HT.out.2.fr HF.out id)).mono ?_
    rintro e w5 ⟨v, rfl, hm, hf⟩
    replace HF := Aside0.mk (HF.out.then_ hf)
    obtain ⟨X, cx, rfl, hcx, hrx⟩ := hm.reads
    have HX := Aside0.mk hrx
    rw [tree_length] at hcx ⊢
    have HTL := Aside0.mk (tree_length ms)
    clear hm hf hrx hcx
    go_wp2_with fail
    by_cases hin : 0 ≤ a ∧ a < (M : Int)
    · obtain ⟨h1, h2⟩ := hin
      obtain ⟨p, rfl⟩ : ∃ p : Nat, a = (p : Int) := ⟨a.toNat, by omega⟩
      have hpM : p < M := by omega
      have HW := Aside0.mk (fun l h => reb_way ms M p HML.out (by omega) hpM l h)
      have HS32 := Aside0.mk (way_32 ms p (by rw [HML.out]; omega) (by rw [HML.out]; exact hpM))
      have HWL : Aside0 ((wayL ms p).length = stepsN p M) := ⟨by rw [way_length, HML.out]⟩
      have HSL := Aside0.mk (steps_lt M p (by omega))
      obtain ⟨ad, Ai, ci, hA, hc0, hci, hrb⟩ := HRM.out.at_ p (by rw [HML.out]; exact hpM)
      subst hA
      have hsm := HLM.out _ (List.getElem_mem (show p < ms.length by rw [HML.out]; exact hpM))
      have HCW : Aside0 (comeL (ms[p]'(by rw [HML.out]; exact hpM)) p M (wayL ms p) = treeL ms) := ⟨come_way_n M ms HML.out p (by rw [HML.out]; exact hpM)⟩
      generalize ms[p]'(by rw [HML.out]; exact hpM) = lk at *
      have HC0 := Aside0.mk hc0
      have HRB := Aside0.mk hrb
      clear hc0 hrb HW h1
      have HX5 := Aside0.mk HX.out
      have H5 := Aside0.mk HF.out.size
      refine (prove_walkY ms M p HML.out (by omega) hpM _ c w5 (HRM.out.fr HF.out) hMc HLM.out (HT.out.1.fr HF.out id) (HT.out.2.fr HF.out id)).mono ?_
      rintro e w6 ⟨lv, rfl, hm, hf⟩
      replace HF := Aside0.mk (HF.out.then_ hf)
      replace HX := Aside0.mk (C_fr HX.out hf)
      have HLO := Aside0.mk hm
      have F56 := Aside0.mk hf
      obtain ⟨U, cu, rfl, hcu, hru⟩ := hm.reads
      rw [HWL.out] at hcu HLO ⊢
      clear hm hf hru
      generalize hwl : wayL ms p = wl at *
      have HWX := Aside0.mk hwl
      generalize hst : stepsN p M = st at *
      have HST := Aside0.mk hst
      have hst5 : st ≤ 300 := by have := HSL.out; omega
      clear hwl hst
      go_wp2_with fail
      refine (steps_calls M p w6 (by omega) (by omega)).mono ?_
      rintro e w7 ⟨rfl, rfl⟩
      rw [HST.out]
      have hss : ((st : Int) == (st : Int)) = true := beq_self_eq_true _
      go_wp2_with fail
      refine (numR_calls _ _).mono ?_
      rintro e w7 ⟨rfl, rfl⟩
      go_wp2_with fail
      refine (numR_calls _ _).mono ?_
      rintro e w7 ⟨rfl, rfl⟩
      go_upto_if 89 with fail
      go_cut [3] (fun s3 wx => ∃ (pf : LL) (U3 : Option Addr) (c3 : Nat), s3 = .slice U3 pf.length c3 ∧ Aside0 (pf.length ≤ c3 ∧ pf.length ≤ 5864062014634 ∧ ∀ l ∈ pf, l.length ≤ 140737488351232) ∧ Aside0 (Rbs wx U3 pf) ∧ Aside0 (Rb wx X (treeL ms)) ∧ Aside0 (Fr No w wx))
      case first =>
        cases own with
        | false =>
          go_wp2_with fail
          go_meet
          exact ⟨ps, A2, c2, rfl, ⟨HCP.out, hn2, HL2.out⟩, ⟨HR2.out.fr HF.out⟩, HX, HF⟩
        | true =>
          obtain ⟨g, hgU, hgw⟩ : ∃ g, (0 < st → U = some ⟨g, 0, none⟩) ∧ w5.heap.size ≤ g := by
            by_cases h0 : 0 < st
            · obtain ⟨g, cap, hv, hg, _⟩ := Kd.S_form HLO.out (by rw [List.length_map, HWL.out]; exact h0)
              rw [List.length_map, HWL.out] at hv
              obtain ⟨rfl, _⟩ : U = some ⟨g, 0, none⟩ ∧ cu = cap := by simpa using hv
              exact ⟨g, fun _ => rfl, hg⟩
            · exact ⟨w5.heap.size, fun h => absurd h h0, Nat.le_refl _⟩
          have HGU := Aside0.mk hgU
          have HT0 : Aside0 (0 < st → TabR w6 w6 g (blendL ps wl 0)) := ⟨fun h => by
            have h1 := HLO.out
            rw [hgU h] at h1
            rw [blend_zero]
            exact own_tab h1 (by rw [HWL.out]; exact h)⟩
          have HFG : Aside0 (∀ W, Fr (fun b => b = g) w6 W → Fr No w W) := ⟨fun W h => HF.out.trans h (fun b hb => .inr (by rw [hb]; exact Nat.le_trans H5.out hgw))⟩
          have HXF : Aside0 (∀ W, Fr (fun b => b = g) w6 W → Rb W X (treeL ms)) := ⟨fun W h => C_fr HX5.out (F56.out.trans h (fun b hb => .inr (by rw [hb]; exact hgw)))⟩
          clear hgU
          go_wp2_with fail
          go_loopw [18] (fun i wr => ∃ k : Nat, k ≤ st ∧ k ≤ ps.length ∧ i = .int .i64 k ∧ Aside0 (0 < st → TabR w6 wr g (blendL ps wl k)) ∧ Aside0 (Fr (fun b => b = g) w6 wr)) (fun i _ => st - (intOf i).toNat)
          case atStart => exact ⟨0, by omega, by omega, rfl, HT0, ⟨Fr.refl _ _⟩⟩
          case round =>
            clear HT0
            obtain ⟨k, hk, hkp, rfl, HTA, HG⟩ := hrel
            have HFw := Aside0.mk (HFG.out wr HG.out)
            by_cases hgo : k < ps.length ∧ k < st
            · obtain ⟨hk1, hk2⟩ := hgo
              have hUe := HGU.out (by omega)
              subst hUe
              obtain ⟨pd, Pi, pci, hP, hpc, hpci, hprb⟩ := (HR2.out.fr HFw.out).at_ k hk1
              subst hP
              have HTK := Aside0.mk (HTA.out (by omega))
              have HMY := Aside0.mk (fun h => blend_yes ps wl k (by rw [HWL.out]; exact hk2) (ps[k]'hk1) (by rw [List.getD_eq_getElem?_getD, List.getElem?_eq_getElem hk1]; rfl) h)
              have HMN : Aside0 ((ps[k]'hk1).length ≠ 32 → blendL ps wl (k + 1) = blendL ps wl k) := ⟨fun h => blend_no ps wl k (by rw [List.getD_eq_getElem?_getD, List.getElem?_eq_getElem hk1]; exact h)⟩
              have HPR : Aside0 (∀ W, Fr No w W → Rb W Pi (ps[k]'hk1)) := ⟨fun W h => by
                obtain ⟨pd2, P2, c4, e2, hc2, _, hr2⟩ := HR2.out.at_ k hk1
                obtain rfl := Option.some.inj e2
                have h3 := HFw.out.cell hc2 id
                rw [hpc] at h3
                obtain ⟨rfl, _⟩ : Pi = P2 ∧ pci = c4 := by simpa using h3
                exact C_fr hr2 h⟩
              have hpsm := HL2.out _ (List.getElem_mem hk1)
              clear hprb HTA
              generalize ps[k]'hk1 = y at *
              by_cases h32 : y.length = 32
              · have hy2 : ((y.length : Int) == 32) = true := by rw [beq_iff_eq]; omega
                obtain ⟨v0, hcz⟩ := HTK.out.cell k (by rw [blend_length, HWL.out]; exact hk2)
                have hfz := HTK.out.free k
                have HTS := Aside0.mk (HTK.out.set k (by rw [blend_length, HWL.out]; exact hk2) y Pi pci hpci (fun W h => HPR.out W (HFG.out W h)))
                have HMYY := Aside0.mk (HMY.out h32)
                clear h32 HMY HMN
                go_wp2_with fail
                exact ⟨⟨k + 1, by omega, by omega, by go_num, ⟨fun _ => by rw [HMYY.out]; exact HTS.out⟩, ⟨HG.out.setCell (.inl rfl) _⟩⟩, by simp [intOf]; omega⟩
              · have hy2 : ((y.length : Int) == 32) = false := by rw [beq_eq_false_iff_ne]; omega
                have HMNN := Aside0.mk (HMN.out h32)
                clear h32 HMY HMN
                go_wp2_with fail
                exact ⟨⟨k + 1, by omega, by omega, by go_num, ⟨fun _ => by rw [HMNN.out]; exact HTK.out⟩, HG⟩, by simp [intOf]; omega⟩
            · have HPF : Aside0 (∃ (pf : LL) (U3 : Option Addr) (c3 : Nat), .slice U st cu = Value.slice U3 pf.length c3 ∧ Aside0 (pf.length ≤ c3 ∧ pf.length ≤ 5864062014634 ∧ ∀ l ∈ pf, l.length ≤ 140737488351232) ∧ Aside0 (Rbs wr U3 pf) ∧ Aside0 (Rb wr X (treeL ms)) ∧ Aside0 (Fr No w wr)) := ⟨by
                have hl9 : (blendL ps wl k).length = st := by rw [blend_length, HWL.out]
                refine ⟨blendL ps wl k, U, cu, by rw [hl9], ⟨by rw [hl9]; exact hcu, by rw [hl9]; omega, fun l hl => by rw [blend_32 ps wl k HS32.out l hl]; decide⟩, ⟨?_⟩, ⟨HXF.out wr HG.out⟩, HFw⟩
                by_cases h0 : 0 < st
                · rw [HGU.out h0]
                  exact (HTA.out h0).reads HG.out (by rw [hl9]; omega)
                · exact ⟨by simp, by rw [hl9]; omega, fun h => by omega⟩⟩
              by_cases hk1 : k < ps.length
              · have hk2 : ¬ k < st := fun h => hgo ⟨hk1, h⟩
                have hk2b : st ≤ k := by omega
                clear hgo
                go_wp2_with fail
                go_meet
                exact HPF.out
              · clear hgo
                go_wp2_with fail
                go_meet
                exact HPF.out
      case rest =>
        obtain ⟨pf, U3, c3, rfl, HPF, HR3, HX, HF⟩ := hcut
        go_wp2_with fail
        refine (rebuild_walkN leaf _ _ rfl hl1 pf rfl A1 U3 c1 c3 (p : Int) (M : Int) wc (C_fr HR1.out HF.out) hc1 HR3.out HPF.out.2.1 HPF.out.2.2 (HT.out.1.fr HF.out id) (HT.out.2.fr HF.out id)).mono ?_
        rintro e w8 ⟨v, rfl, hm, hf⟩
        replace HR3 := Aside0.mk (HR3.out.fr hf)
        replace HX := Aside0.mk (C_fr HX.out hf)
        replace HF := Aside0.mk (HF.out.then_ hf)
        have HY := Aside0.mk hm
        clear hm hf
        cases hok : rebOk (p : Int) (M : Int) pf with
        | false =>
          rw [(reb_bad (leaf := leaf) hok).1]
          clear hok
          go_wp2_with fail
          refine (numR_calls _ _).mono ?_
          rintro e w9 ⟨rfl, rfl⟩
          go_wp2_with fail
          refine (numR_calls _ _).mono ?_
          rintro e w9 ⟨rfl, rfl⟩
          go_wp2_with fail
          refine (numR_calls _ _).mono ?_
          rintro e w9 ⟨rfl, rfl⟩
          go_wp2_with fail
          go_ret
          exact ⟨rfl, HF.out⟩
        | true =>
          have HOK := Aside0.mk (reb_ok hok)
          have HGD := Aside0.mk (reb_good (leaf := leaf) (a := p) (n := M) (ps := pf) (by omega) (by omega) hpM (by rw [HOK.out.1]) HOK.out.2)
          rw [HGD.out.2] at HY
          rw [HGD.out.1]
          rw [HST.out] at HOK
          obtain ⟨Y, cy, rfl, hcy, hry⟩ := HY.out.reads
          rw [comeL_length] at hcy ⊢
          have HY := Aside0.mk hry
          have HCL := Aside0.mk (comeL_length leaf p M pf)
          clear hok hry hcy HGD
          go_wp2_with fail
          refine (numR_calls _ _).mono ?_
          rintro e w9 ⟨rfl, rfl⟩
          go_wp2_with fail
          refine (same_callsNN (comeL leaf p M pf) (treeL ms) 32 32 HCL.out HTL.out _ _ _ _ w8 HY.out HX.out).mono ?_
          rintro e w9 ⟨rfl, rfl⟩
          by_cases heq : comeL leaf p M pf = treeL ms
          · have HEQ := Aside0.mk heq
            rw [decide_eq_true heq]
            clear heq HX HY
            have hcell := HF.out.cell HC0.out id
            go_wp2_with fail
            refine (same_calls leaf lk _ _ _ _ w8 (C_fr HR1.out HF.out) (C_fr HRB.out HF.out)).mono ?_
            rintro e w9 ⟨rfl, rfl⟩
            by_cases hleq : leaf = lk
            · rw [decide_eq_true hleq]
              clear hleq hcell
              go_wp2_with fail
              refine (numR_calls _ _).mono ?_
              rintro e w9 ⟨rfl, rfl⟩
              go_wp2_with fail
              go_ret
              exact ⟨rfl, HF.out⟩
            · rw [decide_eq_false hleq]
              have HNE := Aside0.mk hleq
              clear hleq hcell
              go_wp2_with fail
              refine (prove_walkY ms M p HML.out (by omega) hpM _ c w8 (HRM.out.fr HF.out) hMc HLM.out (HT.out.1.fr HF.out id) (HT.out.2.fr HF.out id)).mono ?_
              rintro e w9 ⟨lv2, rfl, hm, hf⟩
              replace HR3 := Aside0.mk (HR3.out.fr hf)
              replace HF := Aside0.mk (HF.out.then_ hf)
              obtain ⟨V, cv, rfl, hcv, hrv⟩ := hm.reads
              rw [HWX.out, HWL.out] at hcv ⊢
              rw [HWX.out] at hrv
              have HV := Aside0.mk hrv
              clear hm hf hrv
              have hpl : ((pf.length : Int) == (st : Int)) = true := by rw [beq_iff_eq]; have := HOK.out.1; omega
              have hpl2 : ((pf.length : Int) != (st : Int)) = false := by rw [bne_eq_false_iff_eq]; have := HOK.out.1; omega
              go_wp2_with fail
              clear hpl hpl2 hss
              refine (ups_calls leaf hl1 M pf pf.length A1 U3 c1 c3 p w9 rfl (by rw [HOK.out.1, HST.out]) (C_fr HR1.out HF.out) HR3.out HPF.out.1 (by omega) (by omega) HOK.out.2 (HT.out.1.fr HF.out id) (HT.out.2.fr HF.out id)).mono ?_
              rintro e w10 ⟨xv, rfl, hm, hf⟩
              replace HR3 := Aside0.mk (HR3.out.fr hf)
              replace HF := Aside0.mk (HF.out.then_ hf)
              replace HV := Aside0.mk (HV.out.fr hf)
              obtain ⟨XX, cxx, rfl, hcxx, hrxx⟩ := hm.reads
              have HXX := Aside0.mk hrxx
              have HXL : Aside0 ((upsL leaf p M pf).length = st + 1) := ⟨by rw [ups_length _ _ _ _ (by rw [HOK.out.1, HST.out]), HST.out]⟩
              rw [HXL.out] at hcxx ⊢
              have HXS : Aside0 (∀ l ∈ upsL leaf p M pf, l.length ≤ 140737488351300) := ⟨upsZ_small _ _ (by simp; omega) (zip_32 HOK.out.2)⟩
              have hcell := HF.out.cell HC0.out id
              clear hm hf hrxx
              go_wp2_with fail
              refine (ups_calls lk hsm M wl st Ai V ci cv p w10 HWL.out HST.out.symm (C_fr HRB.out HF.out) HV.out hcv (by omega) (by omega) HS32.out (HT.out.1.fr HF.out id) (HT.out.2.fr HF.out id)).mono ?_
              rintro e w11 ⟨yv, rfl, hm, hf⟩
              replace HR3 := Aside0.mk (HR3.out.fr hf)
              replace HF := Aside0.mk (HF.out.then_ hf)
              replace HV := Aside0.mk (HV.out.fr hf)
              replace HXX := Aside0.mk (HXX.out.fr hf)
              obtain ⟨YY, cyy, rfl, hcyy, hryy⟩ := hm.reads
              have HYY := Aside0.mk hryy
              have HYL : Aside0 ((upsL lk p M wl).length = st + 1) := ⟨by rw [ups_length _ _ _ _ (by rw [HWL.out, HST.out]), HST.out]⟩
              rw [HYL.out] at hcyy ⊢
              have HYS : Aside0 (∀ l ∈ upsL lk p M wl, l.length ≤ 140737488351300) := ⟨upsZ_small _ _ (by simp; omega) (zip_32 HS32.out)⟩
              clear hm hf hryy hcell
              have HEND : Aside0 ((∀ j (k1 : j < (upsL leaf p M pf).length) (k2 : j < (upsL lk p M wl).length), sha (upsL leaf p M pf)[j] = sha (upsL lk p M wl)[j] → (upsL leaf p M pf)[j] = (upsL lk p M wl)[j]) → False) := ⟨fun hn => HNE.out (binds_end leaf lk p M pf wl (by rw [HOK.out.1, HST.out]) (by rw [HWL.out, HST.out]) HOK.out.2 HS32.out hn (by rw [HEQ.out, HCW.out]))⟩
              generalize upsL leaf p M pf = xs at *
              generalize upsL lk p M wl = ys at *
              go_wp2_with fail
              go_loopw [25] (fun i wr => ∃ k : Nat, k ≤ st + 1 ∧ i = .int .i64 k ∧ Aside0 (Rbs wr XX xs) ∧ Aside0 (Rbs wr YY ys) ∧ Aside0 (Fr No w wr) ∧ Aside0 (∀ j (k1 : j < xs.length) (k2 : j < ys.length), j < k → sha xs[j] = sha ys[j] → xs[j] = ys[j])) (fun i _ => st + 1 - (intOf i).toNat)
              case atStart => exact ⟨0, by omega, rfl, HXX, HYY, HF, ⟨fun j _ _ h => by omega⟩⟩
              case round =>
                clear HXX HYY HF
                obtain ⟨k, hk, rfl, HXX, HYY, HF, HNO⟩ := hrel
                by_cases hlt : k < st + 1
                · obtain ⟨xd, Xi, cxi, hX, hxc, hxci, hxr⟩ := HXX.out.at_ k (by rw [HXL.out]; exact hlt)
                  subst hX
                  obtain ⟨yd, Yi, cyi, hY, hyc, hyci, hyr⟩ := HYY.out.at_ k (by rw [HYL.out]; exact hlt)
                  subst hY
                  have hxs := HXS.out _ (List.getElem_mem (show k < xs.length by rw [HXL.out]; exact hlt))
                  have hys := HYS.out _ (List.getElem_mem (show k < ys.length by rw [HYL.out]; exact hlt))
                  have HNX : Aside0 ((sha (xs[k]'(by rw [HXL.out]; exact hlt)) = sha (ys[k]'(by rw [HYL.out]; exact hlt)) → (xs[k]'(by rw [HXL.out]; exact hlt)) = (ys[k]'(by rw [HYL.out]; exact hlt))) → ∀ j (k1 : j < xs.length) (k2 : j < ys.length), j < k + 1 → sha xs[j] = sha ys[j] → xs[j] = ys[j]) := ⟨fun h j k1 k2 hj => by
                    by_cases e : j = k
                    · subst e; exact h
                    · exact HNO.out j k1 k2 (by omega)⟩
                  generalize xs[k]'(by rw [HXL.out]; exact hlt) = xl at *
                  generalize ys[k]'(by rw [HYL.out]; exact hlt) = yl at *
                  have HXC := Aside0.mk hxc; have HYC := Aside0.mk hyc; have HXR := Aside0.mk hxr; have HYR := Aside0.mk hyr
                  have hkx : (k : Int) < ((st + 1 : Nat) : Int) := by omega
                  clear hxc hyc hxr hyr HNO
                  obtain ⟨r, hr⟩ : ∃ r : Bool, r = decide (sha xl = sha yl) := ⟨_, rfl⟩
                  have HRR := Aside0.mk hr
                  clear hr
                  go_wp2_with fail
                  have HW0 := Aside0.mk HF.out
                  by_cases hxy : xl = yl
                  · subst hxy
                    refine region_jb (by kernel_rfl) 216 rfl colS [193, 194, 195, 196, 197, 198, 199, 200, 201, 202, 203, 204, 205, 206, 207, 208, 209, 210, 211, 212, 213, 214, 215] 0 (colF false xd yd (st + 1) cxx (st + 1) cyy k Xi Yi cxi cyi xl xl r) (fun (_ : Array Bool) (_ : Nat → Value) (W : World) => Fr No wr W) (fun _ => (Fr.refl No wr).drew) (by decide +kernel) (by decide +kernel) (by decide +kernel) ?_ ?_
                    · intro listed vs W i o b hj ho hu hb hin hout hyl K hK
                      have hlt : i < 23 := (Array.getElem?_eq_some_iff.1 ho).1
                      have : i = 0 ∨ i = 1 ∨ i = 2 ∨ i = 3 ∨ i = 4 ∨ i = 5 ∨ i = 6 ∨ i = 7 ∨ i = 8 ∨ i = 9 ∨ i = 10 ∨ i = 11 ∨ i = 12 ∨ i = 13 ∨ i = 14 ∨ i = 15 ∨ i = 16 ∨ i = 17 ∨ i = 18 ∨ i = 19 ∨ i = 20 ∨ i = 21 ∨ i = 22 := by omega
                      rcases this with rfl | rfl | rfl | rfl | rfl | rfl | rfl | rfl | rfl | rfl | rfl | rfl | rfl | rfl | rfl | rfl | rfl | rfl | rfl | rfl | rfl | rfl | rfl
                      · obtain rfl := Option.some.inj (show some _ = some o from ho)
                        have HST := Aside0.mk (fun (v : Value) (w' : World) h1 h2 h3 => hK v w' h1 h2 h3)
                        have HJ := Aside0.mk hj.ext
                        have r23 : b.tmps[23]?.getD undef = .slice (some xd) (st + 1) cxx := (hout 23 (by decide +kernel)).trans rfl
                        refine wpOp_of ho rfl ?_
                        clear hK ho hb hu hj hin hout hyl
                        go_simp
                        exact HST.out _ _ (fun _ _ _ _ h => h) rfl HJ.out
                      · obtain rfl := Option.some.inj (show some _ = some o from ho)
                        have HST := Aside0.mk (fun (v : Value) (w' : World) h1 h2 h3 => hK v w' h1 h2 h3)
                        have HJ := Aside0.mk hj.ext
                        have r25 : b.tmps[25]?.getD undef = .int .i64 k := (hout 25 (by decide +kernel)).trans rfl
                        refine wpOp_of ho rfl ?_
                        clear hK ho hb hu hj hin hout hyl
                        go_simp
                        exact HST.out _ _ (fun _ _ _ _ h => h) rfl HJ.out
                      · obtain rfl := Option.some.inj (show some _ = some o from ho)
                        have e0 : colF false xd yd (st + 1) cxx (st + 1) cyy k Xi Yi cxi cyi xl xl r 0 (vs 193) W := hj.all 0 (by decide) (hb ⟨0, .data⟩ (by simp) rfl) (fun h => absurd h (by decide))
                        replace e0 : vs 193 = .slice (some xd) (st + 1) cxx := e0
                        have e1 : colF false xd yd (st + 1) cxx (st + 1) cyy k Xi Yi cxi cyi xl xl r 1 (vs 194) W := hj.all 1 (by decide) (hb ⟨1, .data⟩ (by simp) rfl) (fun h => absurd h (by decide))
                        replace e1 : vs 194 = .int .i64 k := e1
                        have HST := Aside0.mk (fun (v : Value) (w' : World) h1 h2 h3 => hK v w' h1 h2 h3)
                        have HJ := Aside0.mk hj.ext
                        have r193 : b.tmps[193]?.getD undef = .slice (some xd) (st + 1) cxx := (hin 193 (by decide +kernel)).trans e0
                        have r194 : b.tmps[194]?.getD undef = .int .i64 k := (hin 194 (by decide +kernel)).trans e1
                        refine wpOp_of ho rfl ?_
                        clear hK ho hb hu hj hin hout hyl
                        go_simp
                        exact HST.out _ _ (fun _ _ _ _ h => h) rfl HJ.out
                      · obtain rfl := Option.some.inj (show some _ = some o from ho)
                        have e2 : colF false xd yd (st + 1) cxx (st + 1) cyy k Xi Yi cxi cyi xl xl r 2 (vs 195) W := hj.all 2 (by decide) (hb ⟨2, .data⟩ (by simp) rfl) (fun h => absurd h (by decide))
                        replace e2 : vs 195 = .pointer (some (xd.add k)) := e2
                        have HST := Aside0.mk (fun (v : Value) (w' : World) h1 h2 h3 => hK v w' h1 h2 h3)
                        have HJ := Aside0.mk hj.ext
                        have r195 : b.tmps[195]?.getD undef = .pointer (some (xd.add k)) := (hin 195 (by decide +kernel)).trans e2
                        refine wpOp_of ho rfl ?_
                        clear hK ho hb hu hj hin hout hyl
                        have hcl := HJ.out.cell HXC.out id
                        go_simp
                        exact HST.out _ _ (fun _ _ _ _ h => h) rfl HJ.out
                      · obtain rfl := Option.some.inj (show some _ = some o from ho)
                        have HST := Aside0.mk (fun (v : Value) (w' : World) h1 h2 h3 => hK v w' h1 h2 h3)
                        have HJ := Aside0.mk hj.ext
                        have r24 : b.tmps[24]?.getD undef = .slice (some yd) (st + 1) cyy := (hout 24 (by decide +kernel)).trans rfl
                        refine wpOp_of ho rfl ?_
                        clear hK ho hb hu hj hin hout hyl
                        go_simp
                        exact HST.out _ _ (fun _ _ _ _ h => h) rfl HJ.out
                      · obtain rfl := Option.some.inj (show some _ = some o from ho)
                        have HST := Aside0.mk (fun (v : Value) (w' : World) h1 h2 h3 => hK v w' h1 h2 h3)
                        have HJ := Aside0.mk hj.ext
                        have r25 : b.tmps[25]?.getD undef = .int .i64 k := (hout 25 (by decide +kernel)).trans rfl
                        refine wpOp_of ho rfl ?_
                        clear hK ho hb hu hj hin hout hyl
                        go_simp
                        exact HST.out _ _ (fun _ _ _ _ h => h) rfl HJ.out
                      · obtain rfl := Option.some.inj (show some _ = some o from ho)
                        have e4 : colF false xd yd (st + 1) cxx (st + 1) cyy k Xi Yi cxi cyi xl xl r 4 (vs 197) W := hj.all 4 (by decide) (hb ⟨4, .data⟩ (by simp) rfl) (fun h => absurd h (by decide))
                        replace e4 : vs 197 = .slice (some yd) (st + 1) cyy := e4
                        have e5 : colF false xd yd (st + 1) cxx (st + 1) cyy k Xi Yi cxi cyi xl xl r 5 (vs 198) W := hj.all 5 (by decide) (hb ⟨5, .data⟩ (by simp) rfl) (fun h => absurd h (by decide))
                        replace e5 : vs 198 = .int .i64 k := e5
                        have HST := Aside0.mk (fun (v : Value) (w' : World) h1 h2 h3 => hK v w' h1 h2 h3)
                        have HJ := Aside0.mk hj.ext
                        have r197 : b.tmps[197]?.getD undef = .slice (some yd) (st + 1) cyy := (hin 197 (by decide +kernel)).trans e4
                        have r198 : b.tmps[198]?.getD undef = .int .i64 k := (hin 198 (by decide +kernel)).trans e5
                        refine wpOp_of ho rfl ?_
                        clear hK ho hb hu hj hin hout hyl
                        go_simp
                        exact HST.out _ _ (fun _ _ _ _ h => h) rfl HJ.out
                      · obtain rfl := Option.some.inj (show some _ = some o from ho)
                        have e6 : colF false xd yd (st + 1) cxx (st + 1) cyy k Xi Yi cxi cyi xl xl r 6 (vs 199) W := hj.all 6 (by decide) (hb ⟨6, .data⟩ (by simp) rfl) (fun h => absurd h (by decide))
                        replace e6 : vs 199 = .pointer (some (yd.add k)) := e6
                        have HST := Aside0.mk (fun (v : Value) (w' : World) h1 h2 h3 => hK v w' h1 h2 h3)
                        have HJ := Aside0.mk hj.ext
                        have r199 : b.tmps[199]?.getD undef = .pointer (some (yd.add k)) := (hin 199 (by decide +kernel)).trans e6
                        refine wpOp_of ho rfl ?_
                        clear hK ho hb hu hj hin hout hyl
                        have hcl := HJ.out.cell HYC.out id
                        go_simp
                        exact HST.out _ _ (fun _ _ _ _ h => h) rfl HJ.out
                      · obtain rfl := Option.some.inj (show some _ = some o from ho)
                        have e3 : colF false xd yd (st + 1) cxx (st + 1) cyy k Xi Yi cxi cyi xl xl r 3 (vs 196) W := hj.all 3 (by decide) (hb ⟨3, .data⟩ (by simp) rfl) (fun h => absurd h (by decide))
                        replace e3 : vs 196 = .slice Xi xl.length cxi := e3
                        have e7 : colF false xd yd (st + 1) cxx (st + 1) cyy k Xi Yi cxi cyi xl xl r 7 (vs 200) W := hj.all 7 (by decide) (hb ⟨7, .data⟩ (by simp) rfl) (fun h => absurd h (by decide))
                        replace e7 : vs 200 = .slice Yi xl.length cyi := e7
                        have HST := Aside0.mk (fun (v : Value) (w' : World) h1 h2 h3 => hK v w' h1 h2 h3)
                        have HJ := Aside0.mk hj.ext
                        have r196 : b.tmps[196]?.getD undef = .slice Xi xl.length cxi := (hin 196 (by decide +kernel)).trans e3
                        have r200 : b.tmps[200]?.getD undef = .slice Yi xl.length cyi := (hin 200 (by decide +kernel)).trans e7
                        refine wpOp_of ho rfl ?_
                        clear hK ho hb hu hj hin hout hyl
                        go_simp
                        refine (same_calls xl xl _ _ _ _ W (C_fr HXR.out HJ.out) (C_fr HYR.out HJ.out)).mono ?_
                        rintro e w3 ⟨rfl, rfl⟩
                        rw [decide_eq_true rfl]
                        exact HST.out _ _ (fun _ _ _ _ h => h) rfl HJ.out
                      · obtain rfl := Option.some.inj (show some _ = some o from ho)
                        have e8 : colF false xd yd (st + 1) cxx (st + 1) cyy k Xi Yi cxi cyi xl xl r 8 (vs 201) W := hj.all 8 (by decide) (hb ⟨8, .data⟩ (by simp) rfl) (fun h => absurd h (by decide))
                        replace e8 : vs 201 = .bool (!false) := e8
                        have HST := Aside0.mk (fun (v : Value) (w' : World) h1 h2 h3 => hK v w' h1 h2 h3)
                        have HJ := Aside0.mk hj.ext
                        have r201 : b.tmps[201]?.getD undef = .bool (!false) := (hin 201 (by decide +kernel)).trans e8
                        refine wpOp_of ho rfl ?_
                        clear hK ho hb hu hj hin hout hyl
                        go_simp
                        exact HST.out _ _ (fun _ _ _ _ h => h) rfl HJ.out
                      · obtain rfl := Option.some.inj (show some _ = some o from ho)
                        have e9 : colF false xd yd (st + 1) cxx (st + 1) cyy k Xi Yi cxi cyi xl xl r 9 (vs 202) W := hj.all 9 (by decide) (hb ⟨9, .data⟩ (by simp) rfl) (fun h => absurd h (by decide))
                        replace e9 : vs 202 = .bool false := e9
                        have HST := Aside0.mk (fun (v : Value) (w' : World) h1 h2 h3 => hK v w' h1 h2 h3)
                        have HJ := Aside0.mk hj.ext
                        have r202 : b.tmps[202]?.getD undef = .bool false := (hin 202 (by decide +kernel)).trans e9
                        refine wpOp_of ho rfl ?_
                        clear hK ho hb hu hj hin hout hyl
                        go_simp
                        exact HST.out _ _ (fun _ _ _ _ h => h) rfl HJ.out
                      · obtain rfl := Option.some.inj (show some _ = some o from ho)
                        have HST := Aside0.mk (fun (v : Value) (w' : World) h1 h2 h3 => hK v w' h1 h2 h3)
                        have HJ := Aside0.mk hj.ext
                        have hy := hyl 10 203 false (by decide +kernel) rfl (hj.all 10 (by decide) (hb ⟨10, .guard⟩ (by simp) rfl) (fun h => absurd h (by decide)))
                        refine wpOp_skip ho rfl hy (by decide) ?_
                        exact HST.out _ _ (fun _ _ _ _ h => h) (fun h => by cases h) HJ.out
                      · obtain rfl := Option.some.inj (show some _ = some o from ho)
                        have HST := Aside0.mk (fun (v : Value) (w' : World) h1 h2 h3 => hK v w' h1 h2 h3)
                        have HJ := Aside0.mk hj.ext
                        have hy := hyl 10 203 false (by decide +kernel) rfl (hj.all 10 (by decide) (hb ⟨10, .guard⟩ (by simp) rfl) (fun h => absurd h (by decide)))
                        refine wpOp_skip ho rfl hy (by decide) ?_
                        exact HST.out _ _ (fun _ _ _ _ h => h) (fun h => by cases h) HJ.out
                      · obtain rfl := Option.some.inj (show some _ = some o from ho)
                        have HST := Aside0.mk (fun (v : Value) (w' : World) h1 h2 h3 => hK v w' h1 h2 h3)
                        have HJ := Aside0.mk hj.ext
                        have hy := hyl 10 203 false (by decide +kernel) rfl (hj.all 10 (by decide) (hb ⟨10, .guard⟩ (by simp) rfl) (fun h => absurd h (by decide)))
                        refine wpOp_skip ho rfl hy (by decide) ?_
                        exact HST.out _ _ (fun _ _ _ _ h => h) (fun h => by cases h) HJ.out
                      · obtain rfl := Option.some.inj (show some _ = some o from ho)
                        have HST := Aside0.mk (fun (v : Value) (w' : World) h1 h2 h3 => hK v w' h1 h2 h3)
                        have HJ := Aside0.mk hj.ext
                        have hy := hyl 10 203 false (by decide +kernel) rfl (hj.all 10 (by decide) (hb ⟨10, .guard⟩ (by simp) rfl) (fun h => absurd h (by decide)))
                        refine wpOp_skip ho rfl hy (by decide) ?_
                        exact HST.out _ _ (fun _ _ _ _ h => h) (fun h => by cases h) HJ.out
                      · obtain rfl := Option.some.inj (show some _ = some o from ho)
                        have HST := Aside0.mk (fun (v : Value) (w' : World) h1 h2 h3 => hK v w' h1 h2 h3)
                        have HJ := Aside0.mk hj.ext
                        have hy := hyl 10 203 false (by decide +kernel) rfl (hj.all 10 (by decide) (hb ⟨10, .guard⟩ (by simp) rfl) (fun h => absurd h (by decide)))
                        refine wpOp_skip ho rfl hy (by decide) ?_
                        exact HST.out _ _ (fun _ _ _ _ h => h) (fun h => by cases h) HJ.out
                      · obtain rfl := Option.some.inj (show some _ = some o from ho)
                        have HST := Aside0.mk (fun (v : Value) (w' : World) h1 h2 h3 => hK v w' h1 h2 h3)
                        have HJ := Aside0.mk hj.ext
                        have hy := hyl 10 203 false (by decide +kernel) rfl (hj.all 10 (by decide) (hb ⟨10, .guard⟩ (by simp) rfl) (fun h => absurd h (by decide)))
                        refine wpOp_skip ho rfl hy (by decide) ?_
                        exact HST.out _ _ (fun _ _ _ _ h => h) (fun h => by cases h) HJ.out
                      · obtain rfl := Option.some.inj (show some _ = some o from ho)
                        have HST := Aside0.mk (fun (v : Value) (w' : World) h1 h2 h3 => hK v w' h1 h2 h3)
                        have HJ := Aside0.mk hj.ext
                        have hy := hyl 10 203 false (by decide +kernel) rfl (hj.all 10 (by decide) (hb ⟨10, .guard⟩ (by simp) rfl) (fun h => absurd h (by decide)))
                        refine wpOp_skip ho rfl hy (by decide) ?_
                        exact HST.out _ _ (fun _ _ _ _ h => h) (fun h => by cases h) HJ.out
                      · obtain rfl := Option.some.inj (show some _ = some o from ho)
                        have HST := Aside0.mk (fun (v : Value) (w' : World) h1 h2 h3 => hK v w' h1 h2 h3)
                        have HJ := Aside0.mk hj.ext
                        have hy := hyl 10 203 false (by decide +kernel) rfl (hj.all 10 (by decide) (hb ⟨10, .guard⟩ (by simp) rfl) (fun h => absurd h (by decide)))
                        refine wpOp_skip ho rfl hy (by decide) ?_
                        exact HST.out _ _ (fun _ _ _ _ h => h) (fun h => by cases h) HJ.out
                      · obtain rfl := Option.some.inj (show some _ = some o from ho)
                        have HST := Aside0.mk (fun (v : Value) (w' : World) h1 h2 h3 => hK v w' h1 h2 h3)
                        have HJ := Aside0.mk hj.ext
                        have hy := hyl 10 203 false (by decide +kernel) rfl (hj.all 10 (by decide) (hb ⟨10, .guard⟩ (by simp) rfl) (fun h => absurd h (by decide)))
                        refine wpOp_skip ho rfl hy (by decide) ?_
                        exact HST.out _ _ (fun _ _ _ _ h => h) (fun h => by cases h) HJ.out
                      · obtain rfl := Option.some.inj (show some _ = some o from ho)
                        have HST := Aside0.mk (fun (v : Value) (w' : World) h1 h2 h3 => hK v w' h1 h2 h3)
                        have HJ := Aside0.mk hj.ext
                        have hy := hyl 10 203 false (by decide +kernel) rfl (hj.all 10 (by decide) (hb ⟨10, .guard⟩ (by simp) rfl) (fun h => absurd h (by decide)))
                        refine wpOp_skip ho rfl hy (by decide) ?_
                        exact HST.out _ _ (fun _ _ _ _ h => h) (fun h => by cases h) HJ.out
                      · obtain rfl := Option.some.inj (show some _ = some o from ho)
                        have HST := Aside0.mk (fun (v : Value) (w' : World) h1 h2 h3 => hK v w' h1 h2 h3)
                        have HJ := Aside0.mk hj.ext
                        have hy := hyl 10 203 false (by decide +kernel) rfl (hj.all 10 (by decide) (hb ⟨10, .guard⟩ (by simp) rfl) (fun h => absurd h (by decide)))
                        refine wpOp_skip ho rfl hy (by decide) ?_
                        exact HST.out _ _ (fun _ _ _ _ h => h) (fun h => by cases h) HJ.out
                      · obtain rfl := Option.some.inj (show some _ = some o from ho)
                        have e10 : colF false xd yd (st + 1) cxx (st + 1) cyy k Xi Yi cxi cyi xl xl r 10 (vs 203) W := hj.all 10 (by decide) (hb ⟨10, .data⟩ (by simp) rfl) (fun h => absurd h (by decide))
                        replace e10 : vs 203 = .bool false := e10
                        have HST := Aside0.mk (fun (v : Value) (w' : World) h1 h2 h3 => hK v w' h1 h2 h3)
                        have HJ := Aside0.mk hj.ext
                        have r203 : b.tmps[203]?.getD undef = .bool false := (hin 203 (by decide +kernel)).trans e10
                        have r214 : b.tmps[214]?.getD undef = vs 214 := hin 214 (by decide +kernel)
                        refine wpOp_of ho rfl ?_
                        clear hK ho hb hu hj hin hout hyl
                        go_simp
                        exact HST.out _ _ (fun _ _ _ _ h => h) rfl HJ.out
                    · intro vs W hall hext
                      have e22 : vs 215 = .bool false := hall 22 (by decide) (by decide)
                      obtain ⟨_, _, hfW⟩ := hext
                      have HFF := Aside0.mk (HW0.out.then_ hfW)
                      have HX9 := Aside0.mk (HXX.out.fr hfW)
                      have HY9 := Aside0.mk (HYY.out.fr hfW)
                      clear hall hfW HXX HYY
                      simp only [Jact_lit, List.foldl_cons, List.foldl_nil, List.setIfInBounds_toArray, List.set_cons_succ, List.set_cons_zero, e22]
                      clear e22
                      have HN2 := Aside0.mk (HNX.out (fun _ => rfl))
                      go_wp2_with fail
                      exact ⟨⟨k + 1, by omega, by go_num, HX9, HY9, HFF, HN2⟩, by simp [intOf]; omega⟩
                  · have HXY := Aside0.mk hxy
                    clear hxy
                    refine region_jb (by kernel_rfl) 216 rfl colS [193, 194, 195, 196, 197, 198, 199, 200, 201, 202, 203, 204, 205, 206, 207, 208, 209, 210, 211, 212, 213, 214, 215] 0 (colF true xd yd (st + 1) cxx (st + 1) cyy k Xi Yi cxi cyi xl yl r) (fun (_ : Array Bool) (_ : Nat → Value) (W : World) => Fr No wr W) (fun _ => (Fr.refl No wr).drew) (by decide +kernel) (by decide +kernel) (by decide +kernel) ?_ ?_
                    · intro listed vs W i o b hj ho hu hb hin hout hyl K hK
                      have hlt : i < 23 := (Array.getElem?_eq_some_iff.1 ho).1
                      have : i = 0 ∨ i = 1 ∨ i = 2 ∨ i = 3 ∨ i = 4 ∨ i = 5 ∨ i = 6 ∨ i = 7 ∨ i = 8 ∨ i = 9 ∨ i = 10 ∨ i = 11 ∨ i = 12 ∨ i = 13 ∨ i = 14 ∨ i = 15 ∨ i = 16 ∨ i = 17 ∨ i = 18 ∨ i = 19 ∨ i = 20 ∨ i = 21 ∨ i = 22 := by omega
                      rcases this with rfl | rfl | rfl | rfl | rfl | rfl | rfl | rfl | rfl | rfl | rfl | rfl | rfl | rfl | rfl | rfl | rfl | rfl | rfl | rfl | rfl | rfl | rfl
                      · obtain rfl := Option.some.inj (show some _ = some o from ho)
                        have HST := Aside0.mk (fun (v : Value) (w' : World) h1 h2 h3 => hK v w' h1 h2 h3)
                        have HJ := Aside0.mk hj.ext
                        have r23 : b.tmps[23]?.getD undef = .slice (some xd) (st + 1) cxx := (hout 23 (by decide +kernel)).trans rfl
                        refine wpOp_of ho rfl ?_
                        clear hK ho hb hu hj hin hout hyl
                        go_simp
                        exact HST.out _ _ (fun _ _ _ _ h => h) rfl HJ.out
                      · obtain rfl := Option.some.inj (show some _ = some o from ho)
                        have HST := Aside0.mk (fun (v : Value) (w' : World) h1 h2 h3 => hK v w' h1 h2 h3)
                        have HJ := Aside0.mk hj.ext
                        have r25 : b.tmps[25]?.getD undef = .int .i64 k := (hout 25 (by decide +kernel)).trans rfl
                        refine wpOp_of ho rfl ?_
                        clear hK ho hb hu hj hin hout hyl
                        go_simp
                        exact HST.out _ _ (fun _ _ _ _ h => h) rfl HJ.out
                      · obtain rfl := Option.some.inj (show some _ = some o from ho)
                        have e0 : colF true xd yd (st + 1) cxx (st + 1) cyy k Xi Yi cxi cyi xl yl r 0 (vs 193) W := hj.all 0 (by decide) (hb ⟨0, .data⟩ (by simp) rfl) (fun h => absurd h (by decide))
                        replace e0 : vs 193 = .slice (some xd) (st + 1) cxx := e0
                        have e1 : colF true xd yd (st + 1) cxx (st + 1) cyy k Xi Yi cxi cyi xl yl r 1 (vs 194) W := hj.all 1 (by decide) (hb ⟨1, .data⟩ (by simp) rfl) (fun h => absurd h (by decide))
                        replace e1 : vs 194 = .int .i64 k := e1
                        have HST := Aside0.mk (fun (v : Value) (w' : World) h1 h2 h3 => hK v w' h1 h2 h3)
                        have HJ := Aside0.mk hj.ext
                        have r193 : b.tmps[193]?.getD undef = .slice (some xd) (st + 1) cxx := (hin 193 (by decide +kernel)).trans e0
                        have r194 : b.tmps[194]?.getD undef = .int .i64 k := (hin 194 (by decide +kernel)).trans e1
                        refine wpOp_of ho rfl ?_
                        clear hK ho hb hu hj hin hout hyl
                        go_simp
                        exact HST.out _ _ (fun _ _ _ _ h => h) rfl HJ.out
                      · obtain rfl := Option.some.inj (show some _ = some o from ho)
                        have e2 : colF true xd yd (st + 1) cxx (st + 1) cyy k Xi Yi cxi cyi xl yl r 2 (vs 195) W := hj.all 2 (by decide) (hb ⟨2, .data⟩ (by simp) rfl) (fun h => absurd h (by decide))
                        replace e2 : vs 195 = .pointer (some (xd.add k)) := e2
                        have HST := Aside0.mk (fun (v : Value) (w' : World) h1 h2 h3 => hK v w' h1 h2 h3)
                        have HJ := Aside0.mk hj.ext
                        have r195 : b.tmps[195]?.getD undef = .pointer (some (xd.add k)) := (hin 195 (by decide +kernel)).trans e2
                        refine wpOp_of ho rfl ?_
                        clear hK ho hb hu hj hin hout hyl
                        have hcl := HJ.out.cell HXC.out id
                        go_simp
                        exact HST.out _ _ (fun _ _ _ _ h => h) rfl HJ.out
                      · obtain rfl := Option.some.inj (show some _ = some o from ho)
                        have HST := Aside0.mk (fun (v : Value) (w' : World) h1 h2 h3 => hK v w' h1 h2 h3)
                        have HJ := Aside0.mk hj.ext
                        have r24 : b.tmps[24]?.getD undef = .slice (some yd) (st + 1) cyy := (hout 24 (by decide +kernel)).trans rfl
                        refine wpOp_of ho rfl ?_
                        clear hK ho hb hu hj hin hout hyl
                        go_simp
                        exact HST.out _ _ (fun _ _ _ _ h => h) rfl HJ.out
                      · obtain rfl := Option.some.inj (show some _ = some o from ho)
                        have HST := Aside0.mk (fun (v : Value) (w' : World) h1 h2 h3 => hK v w' h1 h2 h3)
                        have HJ := Aside0.mk hj.ext
                        have r25 : b.tmps[25]?.getD undef = .int .i64 k := (hout 25 (by decide +kernel)).trans rfl
                        refine wpOp_of ho rfl ?_
                        clear hK ho hb hu hj hin hout hyl
                        go_simp
                        exact HST.out _ _ (fun _ _ _ _ h => h) rfl HJ.out
                      · obtain rfl := Option.some.inj (show some _ = some o from ho)
                        have e4 : colF true xd yd (st + 1) cxx (st + 1) cyy k Xi Yi cxi cyi xl yl r 4 (vs 197) W := hj.all 4 (by decide) (hb ⟨4, .data⟩ (by simp) rfl) (fun h => absurd h (by decide))
                        replace e4 : vs 197 = .slice (some yd) (st + 1) cyy := e4
                        have e5 : colF true xd yd (st + 1) cxx (st + 1) cyy k Xi Yi cxi cyi xl yl r 5 (vs 198) W := hj.all 5 (by decide) (hb ⟨5, .data⟩ (by simp) rfl) (fun h => absurd h (by decide))
                        replace e5 : vs 198 = .int .i64 k := e5
                        have HST := Aside0.mk (fun (v : Value) (w' : World) h1 h2 h3 => hK v w' h1 h2 h3)
                        have HJ := Aside0.mk hj.ext
                        have r197 : b.tmps[197]?.getD undef = .slice (some yd) (st + 1) cyy := (hin 197 (by decide +kernel)).trans e4
                        have r198 : b.tmps[198]?.getD undef = .int .i64 k := (hin 198 (by decide +kernel)).trans e5
                        refine wpOp_of ho rfl ?_
                        clear hK ho hb hu hj hin hout hyl
                        go_simp
                        exact HST.out _ _ (fun _ _ _ _ h => h) rfl HJ.out
                      · obtain rfl := Option.some.inj (show some _ = some o from ho)
                        have e6 : colF true xd yd (st + 1) cxx (st + 1) cyy k Xi Yi cxi cyi xl yl r 6 (vs 199) W := hj.all 6 (by decide) (hb ⟨6, .data⟩ (by simp) rfl) (fun h => absurd h (by decide))
                        replace e6 : vs 199 = .pointer (some (yd.add k)) := e6
                        have HST := Aside0.mk (fun (v : Value) (w' : World) h1 h2 h3 => hK v w' h1 h2 h3)
                        have HJ := Aside0.mk hj.ext
                        have r199 : b.tmps[199]?.getD undef = .pointer (some (yd.add k)) := (hin 199 (by decide +kernel)).trans e6
                        refine wpOp_of ho rfl ?_
                        clear hK ho hb hu hj hin hout hyl
                        have hcl := HJ.out.cell HYC.out id
                        go_simp
                        exact HST.out _ _ (fun _ _ _ _ h => h) rfl HJ.out
                      · obtain rfl := Option.some.inj (show some _ = some o from ho)
                        have e3 : colF true xd yd (st + 1) cxx (st + 1) cyy k Xi Yi cxi cyi xl yl r 3 (vs 196) W := hj.all 3 (by decide) (hb ⟨3, .data⟩ (by simp) rfl) (fun h => absurd h (by decide))
                        replace e3 : vs 196 = .slice Xi xl.length cxi := e3
                        have e7 : colF true xd yd (st + 1) cxx (st + 1) cyy k Xi Yi cxi cyi xl yl r 7 (vs 200) W := hj.all 7 (by decide) (hb ⟨7, .data⟩ (by simp) rfl) (fun h => absurd h (by decide))
                        replace e7 : vs 200 = .slice Yi yl.length cyi := e7
                        have HST := Aside0.mk (fun (v : Value) (w' : World) h1 h2 h3 => hK v w' h1 h2 h3)
                        have HJ := Aside0.mk hj.ext
                        have r196 : b.tmps[196]?.getD undef = .slice Xi xl.length cxi := (hin 196 (by decide +kernel)).trans e3
                        have r200 : b.tmps[200]?.getD undef = .slice Yi yl.length cyi := (hin 200 (by decide +kernel)).trans e7
                        refine wpOp_of ho rfl ?_
                        clear hK ho hb hu hj hin hout hyl
                        go_simp
                        refine (same_calls xl yl _ _ _ _ W (C_fr HXR.out HJ.out) (C_fr HYR.out HJ.out)).mono ?_
                        rintro e w3 ⟨rfl, rfl⟩
                        rw [decide_eq_false HXY.out]
                        exact HST.out _ _ (fun _ _ _ _ h => h) rfl HJ.out
                      · obtain rfl := Option.some.inj (show some _ = some o from ho)
                        have e8 : colF true xd yd (st + 1) cxx (st + 1) cyy k Xi Yi cxi cyi xl yl r 8 (vs 201) W := hj.all 8 (by decide) (hb ⟨8, .data⟩ (by simp) rfl) (fun h => absurd h (by decide))
                        replace e8 : vs 201 = .bool (!true) := e8
                        have HST := Aside0.mk (fun (v : Value) (w' : World) h1 h2 h3 => hK v w' h1 h2 h3)
                        have HJ := Aside0.mk hj.ext
                        have r201 : b.tmps[201]?.getD undef = .bool (!true) := (hin 201 (by decide +kernel)).trans e8
                        refine wpOp_of ho rfl ?_
                        clear hK ho hb hu hj hin hout hyl
                        go_simp
                        exact HST.out _ _ (fun _ _ _ _ h => h) rfl HJ.out
                      · obtain rfl := Option.some.inj (show some _ = some o from ho)
                        have e9 : colF true xd yd (st + 1) cxx (st + 1) cyy k Xi Yi cxi cyi xl yl r 9 (vs 202) W := hj.all 9 (by decide) (hb ⟨9, .data⟩ (by simp) rfl) (fun h => absurd h (by decide))
                        replace e9 : vs 202 = .bool true := e9
                        have HST := Aside0.mk (fun (v : Value) (w' : World) h1 h2 h3 => hK v w' h1 h2 h3)
                        have HJ := Aside0.mk hj.ext
                        have r202 : b.tmps[202]?.getD undef = .bool true := (hin 202 (by decide +kernel)).trans e9
                        refine wpOp_of ho rfl ?_
                        clear hK ho hb hu hj hin hout hyl
                        go_simp
                        exact HST.out _ _ (fun _ _ _ _ h => h) rfl HJ.out
                      · obtain rfl := Option.some.inj (show some _ = some o from ho)
                        have HST := Aside0.mk (fun (v : Value) (w' : World) h1 h2 h3 => hK v w' h1 h2 h3)
                        have HJ := Aside0.mk hj.ext
                        have r23 : b.tmps[23]?.getD undef = .slice (some xd) (st + 1) cxx := (hout 23 (by decide +kernel)).trans rfl
                        have hy := hyl 10 203 true (by decide +kernel) rfl (hj.all 10 (by decide) (hb ⟨10, .guard⟩ (by simp) rfl) (fun h => absurd h (by decide)))
                        refine wpOp_guard ho rfl hy ?_
                        clear hK ho hb hu hj hin hout hyl hy
                        go_simp
                        exact HST.out _ _ (fun _ _ _ _ h => h) (fun _ => rfl) HJ.out
                      · obtain rfl := Option.some.inj (show some _ = some o from ho)
                        have HST := Aside0.mk (fun (v : Value) (w' : World) h1 h2 h3 => hK v w' h1 h2 h3)
                        have HJ := Aside0.mk hj.ext
                        have r25 : b.tmps[25]?.getD undef = .int .i64 k := (hout 25 (by decide +kernel)).trans rfl
                        have hy := hyl 10 203 true (by decide +kernel) rfl (hj.all 10 (by decide) (hb ⟨10, .guard⟩ (by simp) rfl) (fun h => absurd h (by decide)))
                        refine wpOp_guard ho rfl hy ?_
                        clear hK ho hb hu hj hin hout hyl hy
                        go_simp
                        exact HST.out _ _ (fun _ _ _ _ h => h) (fun _ => rfl) HJ.out
                      · obtain rfl := Option.some.inj (show some _ = some o from ho)
                        have e11 : colF true xd yd (st + 1) cxx (st + 1) cyy k Xi Yi cxi cyi xl yl r 11 (vs 204) W := hj.all 11 (by decide) (hb ⟨11, .data⟩ (by simp) rfl) (fun h => absurd h (by decide))
                        have e12 : colF true xd yd (st + 1) cxx (st + 1) cyy k Xi Yi cxi cyi xl yl r 12 (vs 205) W := hj.all 12 (by decide) (hb ⟨12, .data⟩ (by simp) rfl) (fun h => absurd h (by decide))
                        have HST := Aside0.mk (fun (v : Value) (w' : World) h1 h2 h3 => hK v w' h1 h2 h3)
                        have HJ := Aside0.mk hj.ext
                        have e11 : vs 204 = .slice (some xd) (st + 1) cxx := e11 rfl
                        have e12 : vs 205 = .int .i64 k := e12 rfl
                        have r204 : b.tmps[204]?.getD undef = .slice (some xd) (st + 1) cxx := (hin 204 (by decide +kernel)).trans e11
                        have r205 : b.tmps[205]?.getD undef = .int .i64 k := (hin 205 (by decide +kernel)).trans e12
                        have hy := hyl 10 203 true (by decide +kernel) rfl (hj.all 10 (by decide) (hb ⟨10, .guard⟩ (by simp) rfl) (fun h => absurd h (by decide)))
                        refine wpOp_guard ho rfl hy ?_
                        clear hK ho hb hu hj hin hout hyl hy
                        go_simp
                        exact HST.out _ _ (fun _ _ _ _ h => h) (fun _ => rfl) HJ.out
                      · obtain rfl := Option.some.inj (show some _ = some o from ho)
                        have e13 : colF true xd yd (st + 1) cxx (st + 1) cyy k Xi Yi cxi cyi xl yl r 13 (vs 206) W := hj.all 13 (by decide) (hb ⟨13, .data⟩ (by simp) rfl) (fun h => absurd h (by decide))
                        have HST := Aside0.mk (fun (v : Value) (w' : World) h1 h2 h3 => hK v w' h1 h2 h3)
                        have HJ := Aside0.mk hj.ext
                        have e13 : vs 206 = .pointer (some (xd.add k)) := e13 rfl
                        have r206 : b.tmps[206]?.getD undef = .pointer (some (xd.add k)) := (hin 206 (by decide +kernel)).trans e13
                        have hy := hyl 10 203 true (by decide +kernel) rfl (hj.all 10 (by decide) (hb ⟨10, .guard⟩ (by simp) rfl) (fun h => absurd h (by decide)))
                        refine wpOp_guard ho rfl hy ?_
                        clear hK ho hb hu hj hin hout hyl hy
                        have hcl := HJ.out.cell HXC.out id
                        go_simp
                        exact HST.out _ _ (fun _ _ _ _ h => h) (fun _ => rfl) HJ.out
                      · obtain rfl := Option.some.inj (show some _ = some o from ho)
                        have e14 : colF true xd yd (st + 1) cxx (st + 1) cyy k Xi Yi cxi cyi xl yl r 14 (vs 207) W := hj.all 14 (by decide) (hb ⟨14, .data⟩ (by simp) rfl) (fun h => absurd h (by decide))
                        have HST := Aside0.mk (fun (v : Value) (w' : World) h1 h2 h3 => hK v w' h1 h2 h3)
                        have HJ := Aside0.mk hj.ext
                        have e14 : vs 207 = .slice Xi xl.length cxi := e14 rfl
                        have r207 : b.tmps[207]?.getD undef = .slice Xi xl.length cxi := (hin 207 (by decide +kernel)).trans e14
                        have hy := hyl 10 203 true (by decide +kernel) rfl (hj.all 10 (by decide) (hb ⟨10, .guard⟩ (by simp) rfl) (fun h => absurd h (by decide)))
                        refine wpOp_guard ho rfl hy ?_
                        clear hK ho hb hu hj hin hout hyl hy
                        go_simp
                        refine (digest_callsN xl _ rfl _ _ W (by omega) (C_fr HXR.out HJ.out) (by omega) (HT.out.1.fr (HW0.out.then_ HJ.out) id) (HT.out.2.fr (HW0.out.then_ HJ.out) id)).mono ?_
                        rintro e w3 ⟨v, rfl, hm, hf⟩
                        exact HST.out _ _ (fun _ _ _ _ h => colF_fr (hf) h) (fun _ => hm.rdv) (HJ.out.then_ hf)
                      · obtain rfl := Option.some.inj (show some _ = some o from ho)
                        have HST := Aside0.mk (fun (v : Value) (w' : World) h1 h2 h3 => hK v w' h1 h2 h3)
                        have HJ := Aside0.mk hj.ext
                        have r24 : b.tmps[24]?.getD undef = .slice (some yd) (st + 1) cyy := (hout 24 (by decide +kernel)).trans rfl
                        have hy := hyl 10 203 true (by decide +kernel) rfl (hj.all 10 (by decide) (hb ⟨10, .guard⟩ (by simp) rfl) (fun h => absurd h (by decide)))
                        refine wpOp_guard ho rfl hy ?_
                        clear hK ho hb hu hj hin hout hyl hy
                        go_simp
                        exact HST.out _ _ (fun _ _ _ _ h => h) (fun _ => rfl) HJ.out
                      · obtain rfl := Option.some.inj (show some _ = some o from ho)
                        have HST := Aside0.mk (fun (v : Value) (w' : World) h1 h2 h3 => hK v w' h1 h2 h3)
                        have HJ := Aside0.mk hj.ext
                        have r25 : b.tmps[25]?.getD undef = .int .i64 k := (hout 25 (by decide +kernel)).trans rfl
                        have hy := hyl 10 203 true (by decide +kernel) rfl (hj.all 10 (by decide) (hb ⟨10, .guard⟩ (by simp) rfl) (fun h => absurd h (by decide)))
                        refine wpOp_guard ho rfl hy ?_
                        clear hK ho hb hu hj hin hout hyl hy
                        go_simp
                        exact HST.out _ _ (fun _ _ _ _ h => h) (fun _ => rfl) HJ.out
                      · obtain rfl := Option.some.inj (show some _ = some o from ho)
                        have e16 : colF true xd yd (st + 1) cxx (st + 1) cyy k Xi Yi cxi cyi xl yl r 16 (vs 209) W := hj.all 16 (by decide) (hb ⟨16, .data⟩ (by simp) rfl) (fun h => absurd h (by decide))
                        have e17 : colF true xd yd (st + 1) cxx (st + 1) cyy k Xi Yi cxi cyi xl yl r 17 (vs 210) W := hj.all 17 (by decide) (hb ⟨17, .data⟩ (by simp) rfl) (fun h => absurd h (by decide))
                        have HST := Aside0.mk (fun (v : Value) (w' : World) h1 h2 h3 => hK v w' h1 h2 h3)
                        have HJ := Aside0.mk hj.ext
                        have e16 : vs 209 = .slice (some yd) (st + 1) cyy := e16 rfl
                        have e17 : vs 210 = .int .i64 k := e17 rfl
                        have r209 : b.tmps[209]?.getD undef = .slice (some yd) (st + 1) cyy := (hin 209 (by decide +kernel)).trans e16
                        have r210 : b.tmps[210]?.getD undef = .int .i64 k := (hin 210 (by decide +kernel)).trans e17
                        have hy := hyl 10 203 true (by decide +kernel) rfl (hj.all 10 (by decide) (hb ⟨10, .guard⟩ (by simp) rfl) (fun h => absurd h (by decide)))
                        refine wpOp_guard ho rfl hy ?_
                        clear hK ho hb hu hj hin hout hyl hy
                        go_simp
                        exact HST.out _ _ (fun _ _ _ _ h => h) (fun _ => rfl) HJ.out
                      · obtain rfl := Option.some.inj (show some _ = some o from ho)
                        have e18 : colF true xd yd (st + 1) cxx (st + 1) cyy k Xi Yi cxi cyi xl yl r 18 (vs 211) W := hj.all 18 (by decide) (hb ⟨18, .data⟩ (by simp) rfl) (fun h => absurd h (by decide))
                        have HST := Aside0.mk (fun (v : Value) (w' : World) h1 h2 h3 => hK v w' h1 h2 h3)
                        have HJ := Aside0.mk hj.ext
                        have e18 : vs 211 = .pointer (some (yd.add k)) := e18 rfl
                        have r211 : b.tmps[211]?.getD undef = .pointer (some (yd.add k)) := (hin 211 (by decide +kernel)).trans e18
                        have hy := hyl 10 203 true (by decide +kernel) rfl (hj.all 10 (by decide) (hb ⟨10, .guard⟩ (by simp) rfl) (fun h => absurd h (by decide)))
                        refine wpOp_guard ho rfl hy ?_
                        clear hK ho hb hu hj hin hout hyl hy
                        have hcl := HJ.out.cell HYC.out id
                        go_simp
                        exact HST.out _ _ (fun _ _ _ _ h => h) (fun _ => rfl) HJ.out
                      · obtain rfl := Option.some.inj (show some _ = some o from ho)
                        have e19 : colF true xd yd (st + 1) cxx (st + 1) cyy k Xi Yi cxi cyi xl yl r 19 (vs 212) W := hj.all 19 (by decide) (hb ⟨19, .data⟩ (by simp) rfl) (fun h => absurd h (by decide))
                        have HST := Aside0.mk (fun (v : Value) (w' : World) h1 h2 h3 => hK v w' h1 h2 h3)
                        have HJ := Aside0.mk hj.ext
                        have e19 : vs 212 = .slice Yi yl.length cyi := e19 rfl
                        have r212 : b.tmps[212]?.getD undef = .slice Yi yl.length cyi := (hin 212 (by decide +kernel)).trans e19
                        have hy := hyl 10 203 true (by decide +kernel) rfl (hj.all 10 (by decide) (hb ⟨10, .guard⟩ (by simp) rfl) (fun h => absurd h (by decide)))
                        refine wpOp_guard ho rfl hy ?_
                        clear hK ho hb hu hj hin hout hyl hy
                        go_simp
                        refine (digest_callsN yl _ rfl _ _ W (by omega) (C_fr HYR.out HJ.out) (by omega) (HT.out.1.fr (HW0.out.then_ HJ.out) id) (HT.out.2.fr (HW0.out.then_ HJ.out) id)).mono ?_
                        rintro e w3 ⟨v, rfl, hm, hf⟩
                        exact HST.out _ _ (fun _ _ _ _ h => colF_fr (hf) h) (fun _ => hm.rdv) (HJ.out.then_ hf)
                      · obtain rfl := Option.some.inj (show some _ = some o from ho)
                        have e15 : colF true xd yd (st + 1) cxx (st + 1) cyy k Xi Yi cxi cyi xl yl r 15 (vs 208) W := hj.all 15 (by decide) (hb ⟨15, .data⟩ (by simp) rfl) (fun h => absurd h (by decide))
                        have e20 : colF true xd yd (st + 1) cxx (st + 1) cyy k Xi Yi cxi cyi xl yl r 20 (vs 213) W := hj.all 20 (by decide) (hb ⟨20, .data⟩ (by simp) rfl) (fun h => absurd h (by decide))
                        have HST := Aside0.mk (fun (v : Value) (w' : World) h1 h2 h3 => hK v w' h1 h2 h3)
                        have HJ := Aside0.mk hj.ext
                        have e15 : RdV W (vs 208) (sha xl) := e15 rfl
                        have e20 : RdV W (vs 213) (sha yl) := e20 rfl
                        obtain ⟨D1, d1, e15, -, hd1⟩ := e15
                        obtain ⟨D2, d2, e20, -, hd2⟩ := e20
                        have HD1 := Aside0.mk hd1; have HD2 := Aside0.mk hd2
                        clear hd1 hd2
                        have r208 : b.tmps[208]?.getD undef = .slice D1 (sha xl).length d1 := (hin 208 (by decide +kernel)).trans e15
                        have r213 : b.tmps[213]?.getD undef = .slice D2 (sha yl).length d2 := (hin 213 (by decide +kernel)).trans e20
                        have hy := hyl 10 203 true (by decide +kernel) rfl (hj.all 10 (by decide) (hb ⟨10, .guard⟩ (by simp) rfl) (fun h => absurd h (by decide)))
                        refine wpOp_guard ho rfl hy ?_
                        clear hK ho hb hu hj hin hout hyl hy
                        go_simp
                        refine (same_calls (sha xl) (sha yl) _ _ _ _ W HD1.out HD2.out).mono ?_
                        rintro e w3 ⟨rfl, rfl⟩
                        rw [← HRR.out]
                        exact HST.out _ _ (fun _ _ _ _ h => h) (fun _ => rfl) HJ.out
                      · obtain rfl := Option.some.inj (show some _ = some o from ho)
                        have e10 : colF true xd yd (st + 1) cxx (st + 1) cyy k Xi Yi cxi cyi xl yl r 10 (vs 203) W := hj.all 10 (by decide) (hb ⟨10, .data⟩ (by simp) rfl) (fun h => absurd h (by decide))
                        replace e10 : vs 203 = .bool true := e10
                        have e21 : colF true xd yd (st + 1) cxx (st + 1) cyy k Xi Yi cxi cyi xl yl r 21 (vs 214) W := hj.all 21 (by decide) (hb ⟨21, .data⟩ (by simp) rfl) (fun h => absurd h (by decide))
                        have HST := Aside0.mk (fun (v : Value) (w' : World) h1 h2 h3 => hK v w' h1 h2 h3)
                        have HJ := Aside0.mk hj.ext
                        have e21 : vs 214 = .bool r := e21 rfl
                        have r214 : b.tmps[214]?.getD undef = .bool r := (hin 214 (by decide +kernel)).trans e21
                        have r203 : b.tmps[203]?.getD undef = .bool true := (hin 203 (by decide +kernel)).trans e10
                        refine wpOp_of ho rfl ?_
                        clear hK ho hb hu hj hin hout hyl
                        go_simp
                        exact HST.out _ _ (fun _ _ _ _ h => h) rfl HJ.out
                    · intro vs W hall hext
                      have e22 : vs 215 = .bool r := hall 22 (by decide) (by decide)
                      obtain ⟨_, _, hfW⟩ := hext
                      have HFF := Aside0.mk (HW0.out.then_ hfW)
                      have HX9 := Aside0.mk (HXX.out.fr hfW)
                      have HY9 := Aside0.mk (HYY.out.fr hfW)
                      clear hall hfW HXX HYY
                      simp only [Jact_lit, List.foldl_cons, List.foldl_nil, List.setIfInBounds_toArray, List.set_cons_succ, List.set_cons_zero, e22]
                      clear e22
                      cases r with
                      | true =>
                        go_wp2_with fail
                        go_ret
                        exact ⟨rfl, HFF.out⟩
                      | false =>
                        have HN2 := Aside0.mk (HNX.out (fun h => absurd h (of_decide_eq_false HRR.out.symm)))
                        go_wp2_with fail
                        exact ⟨⟨k + 1, by omega, by go_num, HX9, HY9, HFF, HN2⟩, by simp [intOf]; omega⟩
                · exact (HEND.out (fun j k1 k2 => HNO.out j k1 k2 (by have := HXL.out; omega))).elim
          · rw [decide_eq_false heq]
            clear heq
            go_wp2_with fail
            refine (numR_calls _ _).mono ?_
            rintro e w9 ⟨rfl, rfl⟩
            go_wp2_with fail
            go_ret
            exact ⟨rfl, HF.out⟩
    · have hout := hin
      refine (prove_walkN ms M a HML.out (by omega) hin A c w5 (HRM.out.fr HF.out) hMc HLM.out (HT.out.1.fr HF.out id) (HT.out.2.fr HF.out id)).mono ?_
      rintro e w6 ⟨v, rfl, hm, hf⟩
      replace HF := Aside0.mk (HF.out.then_ hf)
      replace HX := Aside0.mk (C_fr HX.out hf)
      obtain ⟨U, cu, rfl, hcu, hru⟩ := hm.reads
      clear hm hf hru hcu
      have HIN := Aside0.mk hin
      clear hin hout
      by_cases h0 : a < 0
      · go_wp2_with fail
        refine (numR_calls _ _).mono ?_
        rintro e w7 ⟨rfl, rfl⟩
        go_wp2_with fail
        refine (numR_calls _ _).mono ?_
        rintro e w7 ⟨rfl, rfl⟩
        go_wp2_with fail
        go_ret
        exact ⟨rfl, HF.out⟩
      · have h1 : (M : Int) ≤ a := by have := HIN.out; omega
        go_wp2_with fail
        refine (numR_calls _ _).mono ?_
        rintro e w7 ⟨rfl, rfl⟩
        go_wp2_with fail
        refine (numR_calls _ _).mono ?_
        rintro e w7 ⟨rfl, rfl⟩
        go_wp2_with fail
        go_ret
        exact ⟨rfl, HF.out⟩
end Go.Proofs.YtbaeddppihjgfaaDoor.Sg
