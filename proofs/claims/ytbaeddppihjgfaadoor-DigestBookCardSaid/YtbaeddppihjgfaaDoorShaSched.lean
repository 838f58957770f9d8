/- The walks of the schedule's closures. -/
import Derived.StillTailTactics
import Derived.Test.YtbaeddppihjgfaaDoorShaRound
namespace Go.Proofs.YtbaeddppihjgfaaDoor.Sg
open Go Go.RowKit Go.Proofs.YtbaeddppihjgfaaDoorW.PrintWords
set_option linter.unusedVariables false
attribute [local go_sem] u_signed u_xor u_and u_or u_add u_add' u_not u_div8 u_div1024 u_wrap u_wrap'
/-- What stands at place j of the ring when t words have been told. -/
def ringAt (m : Nat → W) (t j : Nat) : W := wt m (if t < 16 then j else t - 1 - (t - 1 - j) % 16)
def ringL (m : Nat → W) (t : Nat) : List Value := (List.range 16).map fun j => .int .u32 (un (ringAt m t j))
def Ring (w : World) (R : Nat) (m : Nat → W) (t : Nat) : Prop := w.heap[R]? = some (.cells (ringL m t).toArray 88 (0, 0))
def Cnt (w : World) (T : Nat) (t : Nat) : Prop := w.heap[T]? = some (.cells #[.int .i64 ((t : Int) - 1)] 3 (0, 0))
section
variable {w : World} {R T t : Nat} {m : Nat → W}
theorem Ring.cell (h : Ring w R m t) (j : Nat) (hj : j < 16) : w.cell? ⟨R, j, none⟩ = some (.int .u32 (un (ringAt m t j))) := by
  have hb : w.heap[R]? = some (.cells (ringL m t).toArray 88 (0, 0)) := h
  simp [World.cell?, hb, ringL, hj]
theorem Ring.free (h : Ring w R m t) (j : Nat) : w.frozen? ⟨R, j, none⟩ = false := by
  have hb : w.heap[R]? = some (.cells (ringL m t).toArray 88 (0, 0)) := h
  simp [World.frozen?, hb]
theorem Cnt.cell (h : Cnt w T t) : w.cell? ⟨T, 0, none⟩ = some (.int .i64 ((t : Int) - 1)) := by
  have hb : w.heap[T]? = some (.cells #[.int .i64 ((t : Int) - 1)] 3 (0, 0)) := h
  simp [World.cell?, hb]
theorem Cnt.free (h : Cnt w T t) (j : Nat) : w.frozen? ⟨T, j, none⟩ = false := by
  have hb : w.heap[T]? = some (.cells #[.int .i64 ((t : Int) - 1)] 3 (0, 0)) := h
  simp [World.frozen?, hb]
theorem Cnt.fr {w1 : World} {S : Nat → Prop} (h : Cnt w T t) (hf : Fr S w w1) (hn : ¬ S T) : Cnt w1 T t := hf.heap h hn
theorem Ring.fr {w1 : World} {S : Nat → Prop} (h : Ring w R m t) (hf : Fr S w w1) (hn : ¬ S R) : Ring w1 R m t := hf.heap h hn
theorem ring_low (h : t < 16) (j : Nat) (hj : j < 16) : ringAt m (t + 1) j = ringAt m t j := by
  unfold ringAt
  by_cases h1 : t + 1 < 16
  · rw [if_pos h1, if_pos h]
  · rw [if_neg h1, if_pos h]
    congr 1
    have : t = 15 := by omega
    subst this
    omega
theorem ring_back (h : 16 ≤ t) (b : Nat) (h1 : 1 ≤ b) (h2 : b ≤ 16) : ringAt m t ((t - b) % 16) = wt m (t - b) := by
  unfold ringAt
  rw [if_neg (by omega)]
  congr 1
  omega
theorem ring_next (h : 16 ≤ t) (j : Nat) (hj : j < 16) : ringAt m (t + 1) j = if j = t % 16 then wt m t else ringAt m t j := by
  unfold ringAt
  rw [if_neg (show ¬ t + 1 < 16 by omega)]
  by_cases e : j = t % 16
  · rw [if_pos e]; congr 1; omega
  · rw [if_neg e, if_neg (by omega)]; congr 1; omega
theorem Ring.set (h : Ring w R m t) (ht : 16 ≤ t) : Ring (w.setCell ⟨R, t % 16, none⟩ (.int .u32 (un (wt m t)))) R m (t + 1) := by
  have hb : w.heap[R]? = some (.cells (ringL m t).toArray 88 (0, 0)) := h
  refine blk_put hb _ _ ?_
  apply Array.ext
  · simp [ringL]
  · intro i h1 h2
    have hi : i < 16 := by simpa [ringL] using h2
    simp only [List.setIfInBounds_toArray, List.getElem_toArray]
    rw [List.getElem_set]
    simp only [ringL, List.getElem_map, List.getElem_range]
    rw [ring_next ht i hi]
    by_cases e : t % 16 = i
    · rw [if_pos e, if_pos e.symm]
    · rw [if_neg e, if_neg (fun h => e h.symm)]
theorem Ring.low (h : Ring w R m t) (ht : t < 16) : Ring w R m (t + 1) := by
  have hb : w.heap[R]? = some (.cells (ringL m t).toArray 88 (0, 0)) := h
  unfold Ring
  rw [hb]
  congr 3
  unfold ringL
  apply List.map_congr_left
  intro j hj
  rw [ring_low ht j (by simpa using hj)]
end
set_option maxRecDepth 100000 in
set_option maxHeartbeats 1000000 in
theorem at_calls (m : Nat → W) (t : Nat) (ht : 16 ≤ t) (ht2 : t < 64) (b : Int) (h1 : 1 ≤ b) (h2 : b ≤ 15) (R T : Nat) (w : World) (hr : Ring w R m t) (hc : w.cell? ⟨T, 0, none⟩ = some (.int .i64 (t : Int))) :
    Calls Tryd.prog 85 #[.int .i64 b, .pointer (some ⟨R, 0, none⟩), .pointer (some ⟨T, 0, none⟩)] w fun e w' => e = .returned (.int .u32 (un (wt m (t - b.toNat)))) ∧ w = w' := by
  obtain ⟨n, rfl⟩ := Int.eq_ofNat_of_zero_le (show 0 ≤ b by omega)
  have hcell := hr.cell ((t - n) % 16) (by omega)
  rw [ring_back ht n (by omega) (by omega)] at hcell
  clear hr
  rw [Int.toNat_natCast]
  go_enter Tryd.func85, Tryd.ntmps85
  go_wp2
  go_ret
  exact ⟨rfl, rfl⟩
set_option maxRecDepth 100000 in
set_option maxHeartbeats 2000000 in
theorem word_low (m : Nat → W) (t : Nat) (ht : t < 16) (R T : Nat) (w : World) (hr : Ring w R m t) (hc : Cnt w T t) (hne : R ≠ T) :
    Calls Tryd.prog 84 #[.pointer (some ⟨T, 0, none⟩), .pointer (some ⟨R, 0, none⟩)] w fun e w' => e = .returned (.int .u32 (un (wt m t))) ∧ Ring w' R m (t + 1) ∧ Cnt w' T (t + 1) ∧ Fr (fun k => k = R ∨ k = T) w w' := by
  have HR := Aside0.mk hr; have HC := Aside0.mk hc
  have hcell := hr.cell t ht
  have e0 : ringAt m t t = wt m t := by unfold ringAt; rw [if_pos ht]
  rw [e0] at hcell
  have hcc := hc.cell
  have hcf := hc.free 0
  have hsum : ((t : Int) - 1) + 1 = (t : Int) := by omega
  have HR1 : Aside0 (Ring (w.setCell ⟨T, 0, none⟩ (.int .i64 (t : Int))) R m (t + 1)) := ⟨by
    have := hr.low ht
    unfold Ring at *
    rw [Below.heap_setCell _ _ _ _ hne]
    exact this⟩
  have HC1 : Aside0 (Cnt (w.setCell ⟨T, 0, none⟩ (.int .i64 (t : Int))) T (t + 1)) := ⟨by
    have hb : w.heap[T]? = some (.cells #[.int .i64 ((t : Int) - 1)] 3 (0, 0)) := hc
    refine blk_put hb 0 _ ?_
    simp⟩
  clear hr hc e0
  go_enter Tryd.func84, Tryd.ntmps84
  go_wp2
  go_ret
  exact ⟨rfl, HR1.out, HC1.out, (Fr.refl _ w).setCell (.inl (.inr rfl)) _⟩
set_option maxRecDepth 100000 in
set_option maxHeartbeats 2000000 in
theorem word_high (m : Nat → W) (t : Nat) (ht : 16 ≤ t) (ht2 : t < 64) (R T : Nat) (w : World) (hr : Ring w R m t) (hc : Cnt w T t) (hne : R ≠ T) :
    Calls Tryd.prog 84 #[.pointer (some ⟨T, 0, none⟩), .pointer (some ⟨R, 0, none⟩)] w fun e w' => e = .returned (.int .u32 (un (wt m t))) ∧ Ring w' R m (t + 1) ∧ Cnt w' T (t + 1) ∧ Fr (fun k => k = R ∨ k = T) w w' := by
  have HR := Aside0.mk hr; have HC := Aside0.mk hc
  have hcell := hr.cell (t % 16) (by omega)
  have e0 : ringAt m t (t % 16) = wt m (t - 16) := by have := ring_back (m := m) ht 16 (by omega) (by omega); rwa [show (t - 16) % 16 = t % 16 by omega] at this
  rw [e0] at hcell
  have hcc := hc.cell
  have hcf := hc.free 0
  have hrf := hr.free (t % 16)
  have hsum : ((t : Int) - 1) + 1 = (t : Int) := by omega
  have HR1 : Aside0 (Ring (w.setCell ⟨T, 0, none⟩ (.int .i64 (t : Int))) R m t) := ⟨by
    unfold Ring at *
    rw [Below.heap_setCell _ _ _ _ hne]
    exact hr⟩
  have HC1 : Aside0 (Cnt (w.setCell ⟨T, 0, none⟩ (.int .i64 (t : Int))) T (t + 1)) := ⟨by
    have hb : w.heap[T]? = some (.cells #[.int .i64 ((t : Int) - 1)] 3 (0, 0)) := hc
    refine blk_put hb 0 _ ?_
    simp⟩
  have HF1 : Aside0 (Fr (fun k => k = R ∨ k = T) w (w.setCell ⟨T, 0, none⟩ (.int .i64 (t : Int)))) := ⟨(Fr.refl _ w).setCell (.inl (.inr rfl)) _⟩
  have HT1 : Aside0 ((w.setCell ⟨T, 0, none⟩ (.int .i64 (t : Int))).cell? ⟨T, 0, none⟩ = some (.int .i64 (t : Int))) := ⟨by have := HC1.out.cell; simpa using this⟩
  have hcell1 := HR1.out.cell (t % 16) (by omega)
  rw [e0] at hcell1
  have hrf1 := HR1.out.free (t % 16)
  have HW := Aside0.mk (wt_high m t (by omega))
  have hge : ¬ (t : Int) < 16 := by omega
  clear hr hc e0 hcell hrf
  go_enter Tryd.func84, Tryd.ntmps84
  go_wp2_with fail
  refine (at_calls m t ht ht2 15 (by decide) (by decide) R T _ HR1.out HT1.out).mono ?_
  rintro e w' ⟨rfl, rfl⟩
  have hct := HT1.out
  clear hcc hcf hsum
  generalize w.setCell ⟨T, 0, none⟩ (.int .i64 (t : Int)) = w1 at *
  go_wp2_with fail
  refine (at_calls m t ht ht2 2 (by decide) (by decide) R T _ HR1.out HT1.out).mono ?_
  rintro e w' ⟨rfl, rfl⟩
  go_wp2_with (go_at_call 79; refine (r_calls _ _ _ (by decide) (by decide)).mono ?_; rintro e w' ⟨rfl, rfl⟩)
  have HRd : Aside0 (Ring w1.drew R m t) := HR1
  have HTd : Aside0 (w1.drew.cell? ⟨T, 0, none⟩ = some (.int .i64 (t : Int))) := HT1
  have HCd : Aside0 (Cnt w1.drew T (t + 1)) := HC1
  have hcell2 := HRd.out.cell (t % 16) (by omega)
  have e0 : ringAt m t (t % 16) = wt m (t - 16) := by have := ring_back (m := m) ht 16 (by omega) (by omega); rwa [show (t - 16) % 16 = t % 16 by omega] at this
  rw [e0] at hcell2
  have hrf2 := HRd.out.free (t % 16)
  have hct2 := HTd.out
  have HS := Aside0.mk (HRd.out.set ht)
  obtain ⟨q, hq⟩ : ∃ q : Nat, t % 16 = q := ⟨_, rfl⟩
  have htm : (t : Int).tmod 16 = (q : Int) := by rw [Int.tmod_eq_emod_of_nonneg (by omega)]; omega
  have hq16 : (q : Int) < 16 := by omega
  have htm2 : (t : Int) % 16 = (q : Int) := by omega
  rw [hq] at hcell1 hrf1 hcell2 hrf2 HS
  clear hq e0 hge hct
  refine wp_region_still_tail 12 (by kernel_rfl) (by kernel_rfl) ?_
  simp only [List.take_succ_cons, List.take_zero, List.drop_succ_cons, List.drop_zero]
  repeat still_step
  still_call ((at_calls m t ht ht2 7 (by decide) (by decide) R T _ HRd.out HTd.out).mono fun _ _ ⟨he, hw⟩ => ⟨he, hw.symm⟩)
  repeat still_step
  refine wpStill_nil ?_
  have HF2 : Aside0 (Fr (fun k => k = R ∨ k = T) w w1.drew) := ⟨HF1.out.drew⟩
  change wpList _ _ _ _ _ w1.drew
  generalize w1.drew = w2 at *
  clear HR1 HT1 HC1 hcell1 hrf1
  have hval : wt m (t - 16) + (((wt m (t - 2) <<< 15 ||| wt m (t - 2) >>> 17) ^^^ (wt m (t - 2) <<< 13 ||| wt m (t - 2) >>> 19) ^^^ wt m (t - 2) >>> 10) + wt m (t - 7) + ((wt m (t - 15) <<< 25 ||| wt m (t - 15) >>> 7) ^^^ (wt m (t - 15) <<< 14 ||| wt m (t - 15) >>> 18) ^^^ wt m (t - 15) >>> 3)) = wt m t := HW.out.symm
  go_wp2
  go_ret
  exact ⟨rfl, HS.out, HCd.out.fr ((Fr.refl (fun k => k = R) w2).setCell (.inl rfl) _) (fun h => hne h.symm), HF2.out.setCell (.inl (.inl rfl)) _⟩
theorem word_calls (m : Nat → W) (t : Nat) (ht2 : t < 64) (R T : Nat) (w : World) (hr : Ring w R m t) (hc : Cnt w T t) (hne : R ≠ T) :
    Calls Tryd.prog 84 #[.pointer (some ⟨T, 0, none⟩), .pointer (some ⟨R, 0, none⟩)] w fun e w' => e = .returned (.int .u32 (un (wt m t))) ∧ Ring w' R m (t + 1) ∧ Cnt w' T (t + 1) ∧ Fr (fun k => k = R ∨ k = T) w w' := by
  by_cases h : t < 16
  · exact word_low m t h R T w hr hc hne
  · exact word_high m t (by omega) ht2 R T w hr hc hne
end Go.Proofs.YtbaeddppihjgfaaDoor.Sg
