/- The walks of sameAll, keptAll, flippedAll. -/
import Derived.Test.YtbaeddppihjgfaaDoorRooms
namespace Go.Proofs.YtbaeddppihjgfaaDoor.Sg
open Go Go.RowKit Go.Proofs.YtbaeddppihjgfaaDoorW.PrintWords
set_option linter.unusedVariables false
theorem same_quiet (a b : List UInt8) (A B : Option Addr) (c d : Nat) (w : World) (n : Nat) (ha : Rb w A a) (hb : Rb w B b) :
    Calls Tryd.prog 23 #[.slice A a.length c, .slice B b.length d] (w.drewN n) fun e w' => e = .returned (.bool (decide (a = b))) ∧ ∃ m, w' = w.drewN m :=
  Calls.quiet_of_same ((same_calls a b A B c d (w.drewN n) (C_fr ha ((Fr.refl No w).drewN n)) (C_fr hb ((Fr.refl No w).drewN n))).mono fun _ _ h => ⟨h.1, h.2.symm⟩)
theorem take_eq_succ {ls ms : List (List UInt8)} {k : Nat} (h1 : k < ls.length) (h2 : k < ms.length) (ht : ls.take k = ms.take k) : ls.take (k + 1) = ms.take (k + 1) ↔ ls[k] = ms[k] := by
  rw [List.take_succ_eq_append_getElem h1, List.take_succ_eq_append_getElem h2, ht]
  exact ⟨fun h => List.singleton_inj.1 (List.append_cancel_left h), fun h => by rw [h]⟩
set_option maxRecDepth 100000 in
set_option maxHeartbeats 4000000 in
theorem sameAll_calls (ls ms : List (List UInt8)) (A B : Option Addr) (c d : Nat) (w : World) (ha : Rbs w A ls) (hb : Rbs w B ms) :
    Calls Tryd.prog 37 #[.slice A ls.length c, .slice B ms.length d] w fun e w' => e = .returned (.bool (decide (ls = ms))) ∧ Fr No w w' := by
  have HA := Aside0.mk ha; have HB := Aside0.mk hb
  have hml : ms.length ≤ 9223372036854775807 := hb.2.1
  clear ha hb
  go_enter Tryd.func37, Tryd.ntmps37
  by_cases hlen : ls.length = ms.length
  · rw [hlen]
    go_wp2_with fail
    go_loopw [5] (fun i wr => ∃ k : Nat, k ≤ ms.length ∧ i = .int .i64 k ∧ Aside0 (ls.take k = ms.take k) ∧ Aside0 (Fr No w wr)) (fun i _ => ms.length - (intOf i).toNat)
    case atStart => exact ⟨0, by omega, rfl, ⟨rfl⟩, ⟨Fr.refl _ _⟩⟩
    case round =>
      obtain ⟨k, hk, rfl, HT, HF⟩ := hrel
      by_cases hlt : k < ms.length
      · obtain ⟨ad, Ai, ci, rfl, hca, hcia, hra⟩ := (HA.out.fr HF.out).at_ k (by omega)
        obtain ⟨bd, Bi, di, rfl, hcb, hdib, hrb⟩ := (HB.out.fr HF.out).at_ k hlt
        have HRA := Aside0.mk hra; have HRB := Aside0.mk hrb
        clear hra hrb
        have HE := Aside0.mk (take_eq_succ (by omega) hlt HT.out)
        have HNE : Aside0 (ls[k]'(by omega) ≠ ms[k] → ls ≠ ms) := ⟨fun h he => h (by subst he; rfl)⟩
        generalize ls[k]'(by omega) = x at *
        generalize ms[k] = y at *
        have hk0 : (0 : Int) ≤ (k : Int) := by omega
        have hk1 : (k : Int) < (ms.length : Int) := by omega
        by_cases hxy : x = y
        · have hd : decide (x = y) = true := decide_eq_true hxy
          replace hxy := Aside0.mk hxy
          go_wp2_with fail
          go_quiet ((go_at_call 23; exact same_quiet x y _ _ _ _ _ _ HRA.out HRB.out))
          clear hd hcia hdib hca hcb hlen
          go_wp2_with fail
          refine ⟨⟨k + 1, by omega, by go_num, ⟨HE.out.2 hxy.out⟩, ⟨HF.out.drewN _⟩⟩, by simp [intOf]; omega⟩
        · have hd : decide (x = y) = false := decide_eq_false hxy
          have HRES : Aside0 (decide (ls = ms) = false) := ⟨decide_eq_false (HNE.out hxy)⟩
          replace hxy := Aside0.mk hxy
          go_wp2_with fail
          go_quiet ((go_at_call 23; exact same_quiet x y _ _ _ _ _ _ HRA.out HRB.out))
          clear hd hcia hdib hca hcb hlen
          go_wp2_with fail
          go_ret
          exact ⟨by rw [HRES.out]; rfl, HF.out.drewN _⟩
      · obtain rfl : k = ms.length := by omega
        have hres : decide (ls = ms) = true := decide_eq_true (by have := HT.out; rwa [List.take_length, ← hlen, List.take_length] at this)
        go_wp2_with fail
        go_ret
        exact ⟨by rw [hres]; rfl, HF.out⟩
  · have hres : decide (ls = ms) = false := decide_eq_false (fun h => hlen (by rw [h]))
    have hne : ((ls.length : Int) == (ms.length : Int)) = false := beq_eq_false_iff_ne.2 (by omega)
    go_wp2_with fail
    go_ret
    exact ⟨by rw [hres]; rfl, Fr.refl _ _⟩
theorem kept_quiet (l : List UInt8) (g : Nat) (A : Option Addr) (c : Nat) (w : World) (n : Nat) (hm : Room w g l) (hr : Rb w A l) (hl : l.length ≤ 140737488351232) :
    Calls Tryd.prog 20 #[.slice (some ⟨g, 0, none⟩) l.length (l.length + 6), .slice A l.length c] (w.drewN n) fun e w' => e = .returned (.bool true) ∧ ∃ m, w' = w.drewN m :=
  Calls.quiet_of_same ((kept_calls l g A c (w.drewN n) hm (C_fr hr ((Fr.refl No w).drewN n)) hl).mono fun _ _ h => ⟨h.1, h.2.symm⟩)
theorem one_reads {w : World} {x : Nat} (b : UInt8) (h : Blk w x [(b.toNat : Int)]) : Rb w (some ⟨x, 0, none⟩) [b] := Blk.reads (xs := [(b.toNat : Int)]) (ys := []) h (by simp [maxLen])
theorem one_same {w : World} {x y : Nat} (b : UInt8) (h : Blk w x [(b.toNat : Int)]) (k : Blk w y [(b.toNat : Int)]) :
    Calls Tryd.prog 23 #[.slice (some ⟨x, 0, none⟩) 1 1, .slice (some ⟨y, 0, none⟩) 1 1] w fun e w' => e = .returned (.bool true) ∧ w = w' :=
  (same_calls [b] [b] _ _ 1 1 w (one_reads b h) (one_reads b k)).mono fun e w' he => ⟨by rw [he.1]; simp, he.2⟩
set_option maxRecDepth 100000 in
set_option maxHeartbeats 4000000 in
theorem keptAll_calls (ls : List (List UInt8)) (B : Nat) (g : Nat → Nat) (x1 x2 : Nat) (A : Option Addr) (c : Nat) (w : World) (hm : RoomAll w B g x1 x2 ls) (hr : Rbs w A ls) :
    Calls Tryd.prog 35 #[.slice (some ⟨B, 0, none⟩) ls.length (ls.length + 2), .slice A ls.length c] w fun e w' => e = .returned (.bool true) ∧ Fr No w w' := by
  have HM := Aside0.mk hm; have HR := Aside0.mk hr
  clear hm hr
  have hcnt := HM.out.cnt
  go_enter Tryd.func35, Tryd.ntmps35
  obtain ⟨W1, hW1, F1, X1⟩ : ∃ W1, W1 = w.alloc (.cells #[.int .u8 1] 5) ∧ Fr No w W1 ∧ Blk W1 w.heap.size [1] := ⟨_, rfl, (Fr.refl No w).alloc _, heap_alloc_new w _⟩
  obtain ⟨W2, hW2, F2, X2⟩ : ∃ W2, W2 = W1.alloc (.cells #[.int .u8 2] 5) ∧ Fr No W1 W2 ∧ Blk W2 W1.heap.size [2] := ⟨_, rfl, (Fr.refl No W1).alloc _, heap_alloc_new W1 _⟩
  have M1 := HM.out.fr (S := No) F1
  have M2 := M1.fr (S := No) F2
  have hc1 := HM.out.tab.cell (t := ls.length) (by omega)
  have hc2 := M1.tab.cell (t := ls.length + 1) (by omega)
  simp only [outV, Nat.lt_irrefl, if_false, if_true, show ¬ (ls.length + 1 < ls.length) by omega, show ¬ (ls.length + 1 = ls.length) by omega] at hc1 hc2
  have HM1 := Aside0.mk M1; have HM2 := Aside0.mk M2
  have HX1 := Aside0.mk X1; have HX2 := Aside0.mk X2
  have HF2 : Aside0 (Fr No w W2) := ⟨F1.then_ F2⟩
  have HW1 := Aside0.mk hW1; have HW2 := Aside0.mk hW2
  clear M1 M2 X1 X2 F1 F2 hW1 hW2
  go_wp2_with fail
  rw [← HW1.out]
  refine (one_same 1 HM1.out.b1 HX1.out).mono ?_
  rintro e w' ⟨rfl, rfl⟩
  clear hc1
  go_wp2_with fail
  rw [← HW2.out]
  refine (one_same 2 HM2.out.b2 HX2.out).mono ?_
  rintro e w' ⟨rfl, rfl⟩
  clear hc2
  have HR2 : Aside0 (Rbs W2 A ls) := ⟨HR.out.fr HF2.out⟩
  clear HW1 HW2 HM HM1 HX1 HX2 HR
  go_wp2_with fail
  go_loopw [6] (fun i wr => ∃ k : Nat, k ≤ ls.length ∧ i = .int .i64 k ∧ Aside0 (Fr No W2 wr)) (fun i _ => ls.length - (intOf i).toNat)
  case atStart => exact ⟨0, by omega, rfl, ⟨Fr.refl _ _⟩⟩
  case round =>
    obtain ⟨k, hk, rfl, HF⟩ := hrel
    by_cases hlt : k < ls.length
    · obtain ⟨ad, Ai, ci, rfl, hca, hcia, hra⟩ := (HR2.out.fr HF.out).at_ k hlt
      have HRA := Aside0.mk hra
      have hcb := (HM2.out.fr (S := No) HF.out).cell k hlt
      have HRM := Aside0.mk ((HM2.out.fr (S := No) HF.out).room k hlt)
      have HSM := Aside0.mk (HM2.out.small _ (List.getElem_mem hlt))
      clear hra hcia
      generalize ls[k] = x at *
      have hk0 : (0 : Int) ≤ (k : Int) := by omega
      have hk1 : (k : Int) < (ls.length : Int) := by omega
      go_wp2_with fail
      go_quiet ((go_at_call 20; exact kept_quiet x _ _ _ _ _ HRM.out HRA.out HSM.out))
      clear hca hcb
      go_wp2_with fail
      refine ⟨⟨k + 1, by omega, by go_num, ⟨HF.out.drewN _⟩⟩, by simp [intOf]; omega⟩
    · obtain rfl : k = ls.length := by omega
      go_wp2_with fail
      go_ret
      exact ⟨rfl, HF2.out.then_ HF.out⟩
end Go.Proofs.YtbaeddppihjgfaaDoor.Sg
namespace Go.Proofs.YtbaeddppihjgfaaDoor.Sg
open Go Go.RowKit Go.Proofs.YtbaeddppihjgfaaDoorW.PrintWords
set_option linter.unusedVariables false
theorem blk_len {w : World} {x y : Nat} {xs ys : List Int} (h : Blk w x xs) (k : Blk w y ys) (hn : xs.length ≠ ys.length) : x ≠ y := fun e => by
  subst e
  have h1 : w.heap[x]? = some (.cells (nums .u8 xs).toArray 5 (0, 0)) := h
  have h2 : w.heap[x]? = some (.cells (nums .u8 ys).toArray 5 (0, 0)) := k
  rw [h1] at h2
  injection h2 with h2
  injection h2 with h2
  apply hn
  have := congrArg Array.size h2
  simpa [nums] using this
theorem tab_blk {w : World} {B x n : Nat} {f : Nat → Value} {xs : List Int} (h : TabV w B n 22 f) (k : Blk w x xs) : x ≠ B := fun e => by
  subst e
  have h1 : w.heap[x]? = some (.cells ((List.range n).map f).toArray 22 (0, 0)) := h
  have h2 : w.heap[x]? = some (.cells (nums .u8 xs).toArray 5 (0, 0)) := k
  rw [h1] at h2
  injection h2 with h2
  injection h2 with _ h3 _
  exact absurd h3 (by decide)
theorem outV_len {g g2 : Nat → Nat} {x1 x2 j : Nat} {ls ms : List (List UInt8)} (hn : ms.length = ls.length) (hg : j < ls.length → g2 j = g j) (hl : j < ls.length → (ms.getD j []).length = (ls.getD j []).length) : outV g x1 x2 ls j = outV g2 x1 x2 ms j := by
  unfold outV
  rw [hn]
  by_cases h : j < ls.length
  · rw [if_pos h, if_pos h, hg h, hl h]
  · rw [if_neg h, if_neg h]
theorem RoomAll.flip {w w' : World} {B : Nat} {g : Nat → Nat} {x1 x2 : Nat} {ls : List (List UInt8)} (h : RoomAll w B g x1 x2 ls) (k : Nat) (hk : k < ls.length) (m : List UInt8) (hml : m.length = ls[k].length) (hf : Fr (fun b => b = g k) w w') (hr : Room w' (g k) m) : RoomAll w' B g x1 x2 (ls.set k m) := by
  have hx : ∀ (x : Nat) (b : Int), Blk w x [b] → x ≠ g k := fun x b hb => blk_len hb (h.room k hk) (by simp [bi, six])
  refine ⟨?_, fun i hi => ?_, h.b1.fr hf (hx _ _ h.b1), h.b2.fr hf (hx _ _ h.b2), fun i j hi hj => h.inj i j (by simpa using hi) (by simpa using hj), fun i hi => h.ne i (by simpa using hi), fun l hl => ?_, by simpa using h.cnt⟩
  · rw [List.length_set]
    refine (h.tab.fr hf (fun e => h.ne k hk e.symm)).congr (fun j hj => outV_len (by simp) (fun _ => rfl) (fun hj => ?_))
    rw [List.getD_eq_getElem?_getD, List.getD_eq_getElem?_getD, List.getElem?_set]
    by_cases e : k = j
    · subst e; simp [hk, hml]
    · rw [if_neg e]
  · by_cases e : k = i
    · subst e; rw [List.getElem_set_self]; exact hr
    · rw [List.getElem_set_ne e]
      have hi2 : i < ls.length := by simpa using hi
      exact Blk.fr (h.room i hi2) hf (fun e2 => e (h.inj i k hi2 hk e2).symm)
  · rcases List.mem_or_eq_of_mem_set hl with hl | rfl
    · exact h.small l hl
    · rw [hml]; exact h.small _ (List.getElem_mem hk)
theorem RoomAll.rev {w w' : World} {B : Nat} {g : Nat → Nat} {x1 x2 : Nat} {ls : List (List UInt8)} (h : RoomAll w B g x1 x2 ls) (hf : Fr (fun b => b = B) w w')
    (ht : TabV w' B (ls.length + 2) 22 (fun j => if j < ls.length then outV g x1 x2 ls (ls.length - 1 - j) else outV g x1 x2 ls j)) : RoomAll w' B (fun j => g (ls.length - 1 - j)) x1 x2 ls.reverse := by
  refine ⟨?_, fun i hi => ?_, h.b1.fr hf (tab_blk h.tab h.b1), h.b2.fr hf (tab_blk h.tab h.b2), fun i j hi hj he => ?_, fun i hi => ?_, fun l hl => h.small l (List.mem_reverse.1 hl), by simpa using h.cnt⟩
  · rw [List.length_reverse]
    refine ht.congr (fun j hj => ?_)
    by_cases e : j < ls.length
    · rw [if_pos e]
      unfold outV
      rw [List.length_reverse, if_pos (by omega), if_pos e, List.getD_eq_getElem?_getD, List.getD_eq_getElem?_getD, List.getElem?_reverse e]
    · rw [if_neg e]
      unfold outV
      rw [List.length_reverse, if_neg e, if_neg e]
  · have hi2 : i < ls.length := by simpa using hi
    rw [List.getElem_reverse]
    exact Blk.fr (h.room _ (by omega)) hf (h.ne _ (by omega))
  · have hi2 : i < ls.length := by simpa using hi
    have hj2 : j < ls.length := by simpa using hj
    have := h.inj _ _ (by omega) (by omega) he
    omega
  · have hi2 : i < ls.length := by simpa using hi
    exact h.ne _ (by omega)
/-- The first k lists with each byte another one. -/
def flipK (ls : List (List UInt8)) (k : Nat) : List (List UInt8) := (ls.take k).map (·.map flip1) ++ ls.drop k
theorem flipK_length (ls : List (List UInt8)) (k : Nat) : (flipK ls k).length = ls.length := by simp [flipK]; omega
theorem flipK_at (ls : List (List UInt8)) (k : Nat) (hk : k < ls.length) : (flipK ls k)[k]'(by rw [flipK_length]; exact hk) = ls[k] := by
  unfold flipK
  rw [List.getElem_append_right (by simp; omega)]
  simp [Nat.min_eq_left (Nat.le_of_lt hk)]
theorem flipK_succ (ls : List (List UInt8)) (k : Nat) (hk : k < ls.length) : (flipK ls k).set k (ls[k].map flip1) = flipK ls (k + 1) := by
  unfold flipK
  have hl : ((ls.take k).map (·.map flip1)).length = k := by simp; omega
  rw [List.set_append_right _ _ (by rw [hl]; exact Nat.le_refl _), hl, Nat.sub_self, List.drop_eq_getElem_cons hk, List.set_cons_zero, List.take_succ_eq_append_getElem hk]
  simp only [List.map_append, List.map_cons, List.map_nil, List.append_assoc, List.singleton_append]
theorem swap_step {n k h : Nat} (hh : n / 2 = h) (hk : k < h) (f : Nat → Value) (j : Nat) (hj : j < n + 2) :
    (if j = n - 1 - k then f k else if j = k then f (n - 1 - k) else if j < n ∧ (j < k ∨ n ≤ j + k) then f (n - 1 - j) else f j) = (if j < n ∧ (j < k + 1 ∨ n ≤ j + (k + 1)) then f (n - 1 - j) else f j) := by
  by_cases e1 : j = n - 1 - k
  · rw [if_pos e1, if_pos (by omega)]; congr 1; omega
  · rw [if_neg e1]
    by_cases e2 : j = k
    · rw [if_pos e2, if_pos (by omega)]; congr 1; omega
    · rw [if_neg e2]
      by_cases e3 : j < n ∧ (j < k ∨ n ≤ j + k)
      · rw [if_pos e3, if_pos (by omega)]
      · rw [if_neg e3, if_neg (by omega)]
theorem swap_end {n h : Nat} (hh : n / 2 = h) (f : Nat → Value) (j : Nat) : (if j < n ∧ (j < h ∨ n ≤ j + h) then f (n - 1 - j) else f j) = (if j < n then f (n - 1 - j) else f j) := by
  by_cases e : j < n
  · rw [if_pos e]
    by_cases e2 : j < n ∧ (j < h ∨ n ≤ j + h)
    · rw [if_pos e2]
    · rw [if_neg e2]; congr 1; omega
  · rw [if_neg e, if_neg (fun h => e h.1)]
/-- The blocks that flippedAll writes. -/
def Its (B : Nat) (g : Nat → Nat) (n : Nat) (b : Nat) : Prop := b = B ∨ ∃ i, i < n ∧ b = g i
set_option maxRecDepth 100000 in
set_option maxHeartbeats 4000000 in
theorem flippedAll_calls (ls : List (List UInt8)) (B : Nat) (g : Nat → Nat) (x1 x2 : Nat) (w : World) (hm : RoomAll w B g x1 x2 ls) :
    Calls Tryd.prog 36 #[.slice (some ⟨B, 0, none⟩) ls.length (ls.length + 2)] w fun e w' => ∃ A c, e = .returned (.slice A ls.length c) ∧ ls.length ≤ c ∧ Rbs w' A (ls.reverse.map (·.map flip1)) ∧
      RoomAll w' B (fun j => g (ls.length - 1 - j)) x1 x2 (ls.reverse.map (·.map flip1)) ∧ Fr (Its B g ls.length) w w' := by
  have HM := Aside0.mk hm
  have hcnt := hm.cnt
  clear hm
  obtain ⟨h, hh⟩ : ∃ h : Nat, ls.length / 2 = h := ⟨_, rfl⟩
  have hti : ((ls.length : Int)).tdiv 2 = (h : Int) := by rw [Int.tdiv_eq_ediv_of_nonneg (by omega)]; omega
  have hdi : ((ls.length : Int)) / 2 = (h : Int) := by omega
  obtain ⟨f, hf⟩ : ∃ f : Nat → Value, f = outV g x1 x2 ls := ⟨_, rfl⟩
  have HFN := Aside0.mk hf
  have HT0 : Aside0 (TabV w B (ls.length + 2) 22 f) := ⟨by rw [hf]; exact HM.out.tab⟩
  have HSL : Aside0 (∀ j, j < ls.length → ∃ p m c, f j = .slice p m c) := ⟨fun j hj => by rw [hf]; unfold outV; rw [if_pos hj]; exact ⟨_, _, _, rfl⟩⟩
  clear hf
  go_enter Tryd.func36, Tryd.ntmps36
  go_wp2_with fail
  go_loopw [4] (fun i wr => ∃ k : Nat, k ≤ h ∧ i = .int .i64 k ∧ Aside0 (TabV wr B (ls.length + 2) 22 (fun j => if j < ls.length ∧ (j < k ∨ ls.length ≤ j + k) then f (ls.length - 1 - j) else f j)) ∧ Aside0 (Fr (fun b => b = B) w wr)) (fun i _ => h - (intOf i).toNat)
  case atStart => exact ⟨0, by omega, rfl, ⟨HT0.out.congr (fun j hj => by rw [if_neg (by omega)])⟩, ⟨Fr.refl _ _⟩⟩
  case round =>
    clear HT0
    obtain ⟨k, hk, rfl, HT, HF⟩ := hrel
    by_cases hlt : k < h
    · obtain ⟨q, hq⟩ : ∃ q : Nat, ls.length - 1 - k = q := ⟨_, rfl⟩
      have hqi : (ls.length : Int) - 1 - (k : Int) = (q : Int) := by omega
      have hq1 : q < ls.length := by omega
      obtain ⟨pk, mk, ck, ek⟩ := HSL.out k (by omega)
      obtain ⟨pq, mq, cq, eq⟩ := HSL.out q hq1
      have hc1 := HT.out.cell (t := k) (by omega)
      rw [if_neg (by omega), ek] at hc1
      have hc2 := HT.out.cell (t := q) (by omega)
      rw [if_neg (by omega), eq] at hc2
      have hfz := HT.out.free
      have HT1 := Aside0.mk (HT.out.set (t := k) (.slice pq mq cq))
      have hfz2 := HT1.out.free
      have HT2 := Aside0.mk (HT1.out.set (t := q) (.slice pk mk ck))
      have hc3 := HT1.out.cell (t := q) (by omega)
      rw [if_neg (by omega), if_neg (by omega), eq] at hc3
      have HQ := Aside0.mk hq
      have HEK := Aside0.mk ek; have HEQ := Aside0.mk eq
      clear hq ek eq
      go_wp2_with fail
      refine ⟨⟨k + 1, by omega, by go_num, ⟨HT2.out.congr (fun j hj => ?_)⟩, ⟨(HF.out.setCell (.inl rfl) _).setCell (.inl rfl) _⟩⟩, by simp [intOf]; omega⟩
      have := swap_step hh hlt f j hj
      rw [HQ.out, HEK.out, HEQ.out] at this
      exact this
    · obtain rfl : k = h := by omega
      have M1 := HM.out.rev HF.out (HT.out.congr (fun j hj => by rw [swap_end hh f j, HFN.out]))
      have HLT : Aside0 (∀ b, Its B g ls.length b → b < w.heap.size) := ⟨fun b hb => by
        rcases hb with rfl | ⟨i, hi, rfl⟩
        · exact HM.out.tab.lt
        · exact Blk.lt (HM.out.room i hi)⟩
      have HX12 : Aside0 (x1 < w.heap.size ∧ x2 < w.heap.size) := ⟨HM.out.b1.lt, HM.out.b2.lt⟩
      have HF0 : Aside0 (Fr (Its B g ls.length) w wr) := ⟨HF.out.mono (fun b hb => .inl (.inl hb))⟩
      have hml : ls.reverse.length = ls.length := List.length_reverse
      have HG2 : Aside0 (∀ i, i < ls.length → Its B g ls.length (g (ls.length - 1 - i))) := ⟨fun i hi => .inr ⟨_, by omega, rfl⟩⟩
      generalize hms : ls.reverse = ms at M1 hml ⊢
      have HMS := Aside0.mk hms
      generalize hg' : (fun j => g (ls.length - 1 - j)) = g' at M1 ⊢
      have HG3 : Aside0 (∀ i, i < ls.length → Its B g ls.length (g' i)) := ⟨fun i hi => by rw [← hg']; exact HG2.out i hi⟩
      have HGG := Aside0.mk hg'
      have HMA : Aside0 (RoomAll wr B g' x1 x2 (flipK ms 0)) := ⟨by simpa [flipK] using M1⟩
      go_wp2_with fail
      clear M1 HT HF HFN HSL hti hdi hh hg' HG2 HM hms
      obtain ⟨wx, rfl⟩ : ∃ wx, wx = wr := ⟨_, rfl⟩
      go_loopw [3, 6] (fun v i wr => ∃ k : Nat, k ≤ ms.length ∧ i = .int .i64 k ∧ Aside0 (RoomAll wr B g' x1 x2 (flipK ms k)) ∧ Aside0 (Kd.R KB 22 wr w.heap.size (fun b => w.heap.size ≤ b) v (((ms.take k).map (·.map flip1)).map bi)) ∧ Aside0 (Fr (Its B g ls.length) w wr)) (fun _ i _ => ms.length - (intOf i).toNat)
      case atStart => exact ⟨0, by omega, rfl, HMA, ⟨Kd.R_nil _ _ _ _ _⟩, HF0⟩
      case round =>
        clear HMA HF0
        obtain ⟨k, hk, rfl, HMA, HO, HF⟩ := hrel
        by_cases hlt : k < ms.length
        · have hcell := HMA.out.cell k (by rw [flipK_length]; exact hlt)
          rw [flipK_at ms k hlt] at hcell
          have hroom := HMA.out.room k (by rw [flipK_length]; exact hlt)
          rw [flipK_at ms k hlt] at hroom
          have HRM := Aside0.mk hroom
          have hsm := HMA.out.small _ (List.getElem_mem (show k < (flipK ms k).length by rw [flipK_length]; exact hlt))
          rw [flipK_at ms k hlt] at hsm
          have HSM := Aside0.mk hsm
          clear hroom hsm
          have hk1 : (k : Int) < (ls.length : Int) := by omega
          have HFL : Aside0 (((ms.take k).map (·.map flip1)).map bi ++ [bi (ms[k].map flip1)] = ((ms.take (k + 1)).map (·.map flip1)).map bi) := ⟨by rw [List.take_succ_eq_append_getElem hlt, List.map_append, List.map_append]; rfl⟩
          have HFS := Aside0.mk (flipK_succ ms k hlt)
          have hmk : ∀ (h1 : k < (flipK ms k).length), (flipK ms k)[k] = ms[k] := fun _ => flipK_at ms k hlt
          have HMK := Aside0.mk hmk
          clear hmk
          generalize ms[k] = l at *
          go_wp2_with fail
          refine (flipped_calls l (g' k) wr HRM.out HSM.out).mono ?_
          rintro e w2 ⟨v2, rfl, hv, hm, hf⟩
          have hv0 := hv
          obtain ⟨A2, c2, rfl, hc2, hr2⟩ := Kd.R_reads hv0
          have HMB : Aside0 (RoomAll w2 B g' x1 x2 (flipK ms (k + 1))) := ⟨by
            rw [← HFS.out]
            exact HMA.out.flip k (by rw [flipK_length]; exact hlt) _ (by rw [HMK.out, List.length_map]) hf hm⟩
          have HO2 : Aside0 (Kd.R KB 22 w2 w.heap.size (fun b => w.heap.size ≤ b) u3 (((ms.take k).map (·.map flip1)).map bi)) := ⟨Kd.R_kept HO.out hf.kept (fun b hb hS => by
            have := HLT.out _ (HG3.out k (by omega)); omega)⟩
          have HF2 : Aside0 (Fr (Its B g ls.length) w w2) := ⟨HF.out.trans hf (fun b hb => .inl (by rw [hb]; exact HG3.out k (by omega)))⟩
          have HP : Aside0 (KB.M w2 w.heap.size (fun b => wr.heap.size ≤ b) (bi (l.map flip1)) [.slice A2 (bi (l.map flip1)).length c2]) := ⟨⟨_, rfl, Kd.R_mono (Kd.R_lower (Kd.R_bound hv) HF.out.size) (fun b hb => hb.2.1)⟩⟩
          have HOK : Aside0 (∀ b, wr.heap.size ≤ b → w.heap.size ≤ b ∧ some b ≠ u3.ownBlock) := ⟨fun b hb => ⟨by have := HF.out.size; omega, fun he => by
            obtain ⟨_, inner, ho, _⟩ := HO.out
            have := own_lt ho b he.symm
            omega⟩⟩
          have HSZ : Aside0 (w.heap.size ≤ w2.heap.size) := ⟨HF2.out.size⟩
          have HLN : Aside0 (((((ms.take k).map (·.map flip1)).map bi).length + 1) * 24 ≤ 140737488355328) := ⟨by simp; omega⟩
          have HOB : Aside0 (∀ b, u3.ownBlock = some b → w.heap.size ≤ b) := ⟨fun b hb => HO.out.1 b hb⟩
          clear hv hv0 hm hf hc2 hr2 HMA HO HF HRM HSM hcell HFS HMK
          go_wp2_with (at_builtin; refine Kd.R_append KB (w0 := w2) w.heap.size rfl _ _ 34 22 (.slice none 0 0) 24 rfl Tryd.underlying34 infoRow rfl (by decide) (by decide) u3 _ (bi (l.map flip1)) [.slice A2 (bi (l.map flip1)).length c2] (fun b => w.heap.size ≤ b) (fun b => wr.heap.size ≤ b) rfl rfl HP.out HOK.out (fun b hb => Nat.le_trans HSZ.out hb) HO2.out (Below.refl _ _) HSZ.out HLN.out ?_; intro v1 w1 hr1 hb1 hg1 hat1)
          have hgr : Fr (fun b => u3.ownBlock = some b) w2 w1 := (Fr.refl (fun b => u3.ownBlock = some b) w2).grown hg1 (fun b hb => .inl hb)
          rw [HFL.out] at hr1
          refine ⟨⟨k + 1, by omega, by go_num, ⟨HMB.out.frS hgr (fun b hb => ?_)⟩, ⟨hr1⟩, ⟨HF2.out.trans hgr (fun b hb => .inr (HOB.out b hb))⟩⟩, by simp [intOf]; omega⟩
          have hb0 := HOB.out b hb
          refine .inr ⟨fun e => ?_, fun i hi e => ?_, fun e => ?_, fun e => ?_⟩
          · have := HLT.out B (.inl rfl); omega
          · have := HLT.out _ (HG3.out i (by rw [flipK_length] at hi; omega)); omega
          · have := HX12.out; omega
          · have := HX12.out; omega
        · obtain rfl : k = ms.length := by omega
          rw [List.take_length] at HO
          have hfk : flipK ms ms.length = ms.map (·.map flip1) := by simp [flipK]
          rw [hfk] at HMA
          obtain ⟨A1, c1, he1, hc1, hr1⟩ := Kd.R_reads HO.out
          have hl1 : ((ms.map (·.map flip1)).map bi).length = ls.length := by simp [hml]
          have hl2 : (ms.map (·.map flip1)).length = ls.length := by simp [hml]
          rw [hl1] at he1 hc1 hr1
          subst he1
          have HRR : Aside0 (Rbs wr A1 (ms.map (·.map flip1))) := ⟨by unfold Rbs; rw [hl2]; exact hr1⟩
          clear hr1 HO hfk
          go_wp2_with fail
          go_ret
          refine ⟨A1, c1, rfl, hc1, ?_, ?_, HF.out⟩
          · rw [HMS.out]; exact HRR.out
          · rw [HMS.out, HGG.out]; exact HMA.out
end Go.Proofs.YtbaeddppihjgfaaDoor.Sg
