/- The walks of sameAll, keptAll, flippedAll. -/
import Derived.Test.YtbaeddppihjgfaaDoorRooms
namespace Go.Proofs.YtbaeddppihjgfaaDoor.Sg
open Go Go.RowKit Go.Proofs.YtbaeddppihjgfaaDoorW.PrintWords
set_option linter.unusedVariables false
theorem same_quiet (a b : List UInt8) (A B : Option Addr) (c d : Nat) (w : World) (n : Nat) (ha : Rb w A a) (hb : Rb w B b) :
    Calls Tryd.prog 23 #[.slice A a.length c, .slice B b.length d] (w.drewN n) fun e w' => e = .returned (.bool (decide (a = b))) ∧ ∃ m, w' = w.drewN m :=
  Calls.quiet_of_same ((same_calls a b A B c d (w.drewN n) (C_fr ha ((Fr.refl No w).drewN n)) (C_fr hb ((Fr.refl No w).drewN n))).mono fun _ _ h => ⟨h.1, h.2.symm⟩)
theorem take_eq_succ {ls ms : List (List UInt8)} {k : Nat} (h1 : k < ls.length) (h2 : k < ms.length) (ht : ls.take k = ms.take k) : ls.take (k + 1) = ms.take (k + 1) ↔ ls[k] = ms[k] := by
  rw [List.take_succ_eq_append_getElem h1, List.take_succ_eq_append_getElem h2, ht]
  exact ⟨fun h => List.singleton_inj.1 (List.append_cancel_left h), fun h => by rw [h]⟩
set_option maxRecDepth 100000 in
set_option maxHeartbeats 4000000 in
theorem sameAll_calls (ls ms : List (List UInt8)) (A B : Option Addr) (c d : Nat) (w : World) (ha : Rbs w A ls) (hb : Rbs w B ms) :
    Calls Tryd.prog 37 #[.slice A ls.length c, .slice B ms.length d] w fun e w' => e = .returned (.bool (decide (ls = ms))) ∧ Fr No w w' := by
  have HA := Aside0.mk ha; have HB := Aside0.mk hb
  have hml : ms.length ≤ 9223372036854775807 := hb.2.1
  clear ha hb
  go_enter Tryd.func37, Tryd.ntmps37
  by_cases hlen : ls.length = ms.length
  · rw [hlen]
    go_wp2_with fail
    go_loopw [5] (fun i wr => ∃ k : Nat, k ≤ ms.length ∧ i = .int .i64 k ∧ Aside0 (ls.take k = ms.take k) ∧ Aside0 (Fr No w wr)) (fun i _ => ms.length - (intOf i).toNat)
    case atStart => exact ⟨0, by omega, rfl, ⟨rfl⟩, ⟨Fr.refl _ _⟩⟩
    case round =>
      obtain ⟨k, hk, rfl, HT, HF⟩ := hrel
      by_cases hlt : k < ms.length
      · obtain ⟨ad, Ai, ci, rfl, hca, hcia, hra⟩ := (HA.out.fr HF.out).at_ k (by omega)
        obtain ⟨bd, Bi, di, rfl, hcb, hdib, hrb⟩ := (HB.out.fr HF.out).at_ k hlt
        have HRA := Aside0.mk hra; have HRB := Aside0.mk hrb
        clear hra hrb
        have HE := Aside0.mk (take_eq_succ (by omega) hlt HT.out)
        have HNE : Aside0 (ls[k]'(by omega) ≠ ms[k] → ls ≠ ms) := ⟨fun h he => h (by subst he; rfl)⟩
        generalize ls[k]'(by omega) = x at *
        generalize ms[k] = y at *
        have hk0 : (0 : Int) ≤ (k : Int) := by omega
        have hk1 : (k : Int) < (ms.length : Int) := by omega
        by_cases hxy : x = y
        · have hd : decide (x = y) = true := decide_eq_true hxy
          replace hxy := Aside0.mk hxy
          go_wp2_with fail
          go_quiet ((go_at_call 23; exact same_quiet x y _ _ _ _ _ _ HRA.out HRB.out))
          clear hd hcia hdib hca hcb hlen
          go_wp2_with fail
          refine ⟨⟨k + 1, by omega, by go_num, ⟨HE.out.2 hxy.out⟩, ⟨HF.out.drewN _⟩⟩, by simp [intOf]; omega⟩
        · have hd : decide (x = y) = false := decide_eq_false hxy
          have HRES : Aside0 (decide (ls = ms) = false) := ⟨decide_eq_false (HNE.out hxy)⟩
          replace hxy := Aside0.mk hxy
          go_wp2_with fail
          go_quiet ((go_at_call 23; exact same_quiet x y _ _ _ _ _ _ HRA.out HRB.out))
          clear hd hcia hdib hca hcb hlen
          go_wp2_with fail
          go_ret
          exact ⟨by rw [HRES.out]; rfl, HF.out.drewN _⟩
      · obtain rfl : k = ms.length := by omega
        have hres : decide (ls = ms) = true := decide_eq_true (by have := HT.out; rwa [List.take_length, ← hlen, List.take_length] at this)
        go_wp2_with fail
        go_ret
        exact ⟨by rw [hres]; rfl, HF.out⟩
  · have hres : decide (ls = ms) = false := decide_eq_false (fun h => hlen (by rw [h]))
    have hne : ((ls.length : Int) == (ms.length : Int)) = false := beq_eq_false_iff_ne.2 (by omega)
    go_wp2_with fail
    go_ret
    exact ⟨by rw [hres]; rfl, Fr.refl _ _⟩
theorem kept_quiet (l : List UInt8) (g : Nat) (A : Option Addr) (c : Nat) (w : World) (n : Nat) (hm : Room w g l) (hr : Rb w A l) (hl : l.length ≤ 140737488351232) :
    Calls Tryd.prog 20 #[.slice (some ⟨g, 0, none⟩) l.length (l.length + 6), .slice A l.length c] (w.drewN n) fun e w' => e = .returned (.bool true) ∧ ∃ m, w' = w.drewN m :=
  Calls.quiet_of_same ((kept_calls l g A c (w.drewN n) hm (C_fr hr ((Fr.refl No w).drewN n)) hl).mono fun _ _ h => ⟨h.1, h.2.symm⟩)
theorem one_reads {w : World} {x : Nat} (b : UInt8) (h : Blk w x [(b.toNat : Int)]) : Rb w (some ⟨x, 0, none⟩) [b] := Blk.reads (xs := [(b.toNat : Int)]) (ys := []) h (by simp [maxLen])
theorem one_same {w : World} {x y : Nat} (b : UInt8) (h : Blk w x [(b.toNat : Int)]) (k : Blk w y [(b.toNat : Int)]) :
    Calls Tryd.prog 23 #[.slice (some ⟨x, 0, none⟩) 1 1, .slice (some ⟨y, 0, none⟩) 1 1] w fun e w' => e = .returned (.bool true) ∧ w = w' :=
  (same_calls [b] [b] _ _ 1 1 w (one_reads b h) (one_reads b k)).mono fun e w' he => ⟨by rw [he.1]; simp, he.2⟩
set_option maxRecDepth 100000 in
set_option maxHeartbeats 4000000 in
theorem keptAll_calls (ls : List (List UInt8)) (B : Nat) (g : Nat → Nat) (x1 x2 : Nat) (A : Option Addr) (c : Nat) (w : World) (hm : RoomAll w B g x1 x2 ls) (hr : Rbs w A ls) :
    Calls Tryd.prog 35 #[.slice (some ⟨B, 0, none⟩) ls.length (ls.length + 2), .slice A ls.length c] w fun e w' => e = .returned (.bool true) ∧ Fr No w w' := by
  have HM := Aside0.mk hm; have HR := Aside0.mk hr
  clear hm hr
  have hcnt := HM.out.cnt
  go_enter Tryd.func35, Tryd.ntmps35
  obtain ⟨W1, hW1, F1, X1⟩ : ∃ W1, W1 = w.alloc (.cells #[.int .u8 1] 5) ∧ Fr No w W1 ∧ Blk W1 w.heap.size [1] := ⟨_, rfl, (Fr.refl No w).alloc _, heap_alloc_new w _⟩
  obtain ⟨W2, hW2, F2, X2⟩ : ∃ W2, W2 = W1.alloc (.cells #[.int .u8 2] 5) ∧ Fr No W1 W2 ∧ Blk W2 W1.heap.size [2] := ⟨_, rfl, (Fr.refl No W1).alloc _, heap_alloc_new W1 _⟩
  have M1 := HM.out.fr (S := No) F1
  have M2 := M1.fr (S := No) F2
  have hc1 := HM.out.tab.cell (t := ls.length) (by omega)
  have hc2 := M1.tab.cell (t := ls.length + 1) (by omega)
  simp only [outV, Nat.lt_irrefl, if_false, if_true, show ¬ (ls.length + 1 < ls.length) by omega, show ¬ (ls.length + 1 = ls.length) by omega] at hc1 hc2
  have HM1 := Aside0.mk M1; have HM2 := Aside0.mk M2
  have HX1 := Aside0.mk X1; have HX2 := Aside0.mk X2
  have HF2 : Aside0 (Fr No w W2) := ⟨F1.then_ F2⟩
  have HW1 := Aside0.mk hW1; have HW2 := Aside0.mk hW2
  clear M1 M2 X1 X2 F1 F2 hW1 hW2
  go_wp2_with fail
  rw [← HW1.out]
  refine (one_same 1 HM1.out.b1 HX1.out).mono ?_
  rintro e w' ⟨rfl, rfl⟩
  clear hc1
  go_wp2_with fail
  rw [← HW2.out]
  refine (one_same 2 HM2.out.b2 HX2.out).mono ?_
  rintro e w' ⟨rfl, rfl⟩
  clear hc2
  have HR2 : Aside0 (Rbs W2 A ls) := ⟨HR.out.fr HF2.out⟩
  clear HW1 HW2 HM HM1 HX1 HX2 HR
  go_wp2_with fail
  go_loopw [6] (fun i wr => ∃ k : Nat, k ≤ ls.length ∧ i = .int .i64 k ∧ Aside0 (Fr No W2 wr)) (fun i _ => ls.length - (intOf i).toNat)
  case atStart => exact ⟨0, by omega, rfl, ⟨Fr.refl _ _⟩⟩
  case round =>
    obtain ⟨k, hk, rfl, HF⟩ := hrel
    by_cases hlt : k < ls.length
    · obtain ⟨ad, Ai, ci, rfl, hca, hcia, hra⟩ := (HR2.out.fr HF.out).at_ k hlt
      have HRA := Aside0.mk hra
      have hcb := (HM2.out.fr (S := No) HF.out).cell k hlt
      have HRM := Aside0.mk ((HM2.out.fr (S := No) HF.out).room k hlt)
      have HSM := Aside0.mk (HM2.out.small _ (List.getElem_mem hlt))
      clear hra hcia
      generalize ls[k] = x at *
      have hk0 : (0 : Int) ≤ (k : Int) := by omega
      have hk1 : (k : Int) < (ls.length : Int) := by omega
      go_wp2_with fail
      go_quiet ((go_at_call 20; exact kept_quiet x _ _ _ _ _ HRM.out HRA.out HSM.out))
      clear hca hcb
      go_wp2_with fail
      refine ⟨⟨k + 1, by omega, by go_num, ⟨HF.out.drewN _⟩⟩, by simp [intOf]; omega⟩
    · obtain rfl : k = ls.length := by omega
      go_wp2_with fail
      go_ret
      exact ⟨rfl, HF2.out.then_ HF.out⟩
end Go.Proofs.YtbaeddppihjgfaaDoor.Sg
