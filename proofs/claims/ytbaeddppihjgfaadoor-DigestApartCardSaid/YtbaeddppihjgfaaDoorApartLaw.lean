/- Frames and their parts undo one another: plain lists. -/
import Derived.Test.YtbaeddppihjgfaaDoorPartsB
namespace Go.Proofs.YtbaeddppihjgfaaDoor.Sg
open Go Go.RowKit
set_option linter.unusedVariables false
theorem getD_drop (l : List UInt8) (k i : Nat) : l.getD (k + i) 0 = (l.drop k).getD i 0 := by
  simp [List.getD_eq_getElem?_getD, List.getElem?_drop]
theorem numV_drop (l : List UInt8) (k n : Nat) (r : List UInt8) (hn : n < 4294967296) (h : l.drop k = le4 n ++ r) : numV l k = n := by
  have e : ∀ i, l.getD (k + i) 0 = (le4 n ++ r).getD i 0 := fun i => by rw [getD_drop, h]
  have e0 := e 0; have e1 := e 1; have e2 := e 2; have e3 := e 3
  unfold numV
  rw [Nat.add_zero] at e0
  rw [e0, e1, e2, e3]
  simp only [le4, List.cons_append, List.nil_append, List.getD_cons_zero, List.getD_cons_succ, UInt8.toNat_ofNat']
  omega
theorem le4_numV (l : List UInt8) (k : Nat) (h : k + 4 ≤ l.length) : (l.drop k).take 4 = le4 (numV l k) := by
  have hd : l.drop k = (l.getD k 0) :: (l.getD (k + 1) 0) :: (l.getD (k + 2) 0) :: (l.getD (k + 3) 0) :: l.drop (k + 4) := by
    have g : ∀ i (hi : i < l.length), l.getD i 0 = l[i] := fun i hi => by simp [List.getD_eq_getElem?_getD, List.getElem?_eq_getElem hi]
    rw [List.drop_eq_getElem_cons (show k < l.length by omega), List.drop_eq_getElem_cons (show k + 1 < l.length by omega), List.drop_eq_getElem_cons (show k + 1 + 1 < l.length by omega), List.drop_eq_getElem_cons (show k + 1 + 1 + 1 < l.length by omega)]
    rw [g k (by omega), g (k + 1) (by omega), g (k + 2) (by omega), g (k + 3) (by omega)]
  rw [hd]
  unfold numV le4
  generalize l.getD k 0 = b0
  generalize l.getD (k + 1) 0 = b1
  generalize l.getD (k + 2) 0 = b2
  generalize l.getD (k + 3) 0 = b3
  have h0 := b0.toNat_lt; have h1 := b1.toNat_lt; have h2 := b2.toNat_lt; have h3 := b3.toNat_lt
  simp only [List.take_succ_cons, List.take_zero]
  have e0 : UInt8.ofNat (b0.toNat + 256 * b1.toNat + 65536 * b2.toNat + 16777216 * b3.toNat) = b0 := UInt8.toNat_inj.1 (by rw [UInt8.toNat_ofNat']; omega)
  have e1 : UInt8.ofNat ((b0.toNat + 256 * b1.toNat + 65536 * b2.toNat + 16777216 * b3.toNat) / 256) = b1 := UInt8.toNat_inj.1 (by rw [UInt8.toNat_ofNat']; omega)
  have e2 : UInt8.ofNat ((b0.toNat + 256 * b1.toNat + 65536 * b2.toNat + 16777216 * b3.toNat) / 65536) = b2 := UInt8.toNat_inj.1 (by rw [UInt8.toNat_ofNat']; omega)
  have e3 : UInt8.ofNat ((b0.toNat + 256 * b1.toNat + 65536 * b2.toNat + 16777216 * b3.toNat) / 16777216) = b3 := UInt8.toNat_inj.1 (by rw [UInt8.toNat_ofNat']; omega)
  rw [e0, e1, e2, e3]
theorem bodyL_cons (x : List UInt8) (ms : List (List UInt8)) : bodyL (x :: ms) = le4 x.length ++ x ++ bodyL ms := by unfold bodyL; simp
theorem go_body (l : List UInt8) : ∀ (ms : List (List UInt8)) (k : Nat) (out : List (List UInt8)), k ≤ l.length → (∀ x ∈ ms, x.length < 4294967296) → l.drop k = bodyL ms → partsGo l ms.length k out = some (l.length, out ++ ms)
  | [], k, out, hk, _, h => by
    have : l.length - k = 0 := by rw [← List.length_drop, h]; rfl
    simp only [List.length_nil, partsGo, List.append_nil]
    congr 2
    omega
  | x :: ms, k, out, hk, hx, h => by
    rw [bodyL_cons, List.append_assoc] at h
    have hn := numV_drop l k x.length _ (hx x List.mem_cons_self) h
    have hlen : l.length - k = 4 + x.length + (bodyL ms).length := by rw [← List.length_drop, h, List.length_append, List.length_append, le4_length]; omega
    have hd4 : l.drop (k + 4) = x ++ bodyL ms := by
      rw [← List.drop_drop, h]
      exact List.drop_left' (le4_length _)
    have hpart : partAt l k = x := by
      unfold partAt
      rw [hn, hd4]
      exact List.take_left' rfl
    rw [List.length_cons, partsGo_step (by rw [hn]; omega), hn, hpart]
    have hdn : l.drop (k + 4 + x.length) = bodyL ms := by
      rw [← List.drop_drop, hd4]
      exact List.drop_left' rfl
    rw [go_body l ms (k + 4 + x.length) (out ++ [x]) (by omega) (fun y hy => hx y (List.mem_cons_of_mem _ hy)) hdn, List.append_assoc]
    rfl
theorem parts_of_frame (ls : List (List UInt8)) (h : frameOk ls = true) : partsL (frameL ls) = ls ∧ partsE (frameL ls) = 0 := by
  have h2 := h
  unfold frameOk at h2
  simp only [Bool.and_eq_true, decide_eq_true_eq] at h2
  have hlen := frameL_length ls
  have hge := frameN_ge ls
  have hx : ∀ x ∈ ls, x.length < 4294967296 := fun x hx => by
    have : x.length ≤ frameN ls := by
      clear h h2 hlen hge
      induction ls with
      | nil => cases hx
      | cons y r ih =>
        simp only [frameN]
        rcases List.mem_cons.1 hx with rfl | hx
        · omega
        · have := ih hx; omega
    omega
  have hn : numV (frameL ls) 0 = ls.length := numV_drop _ 0 _ (bodyL ls) (by omega) rfl
  have hd : (frameL ls).drop 4 = bodyL ls := List.drop_left' (le4_length _)
  have hg := go_body (frameL ls) ls 4 [] (by omega) hx hd
  refine parts_good (by omega) ?_
  rw [partsX_end ⟨by omega, by rw [hn]; exact h2.1⟩ (by rw [hn]; exact hg), if_pos rfl]
  rfl
theorem go_back (l : List UInt8) : ∀ (n k : Nat) (acc : List (List UInt8)) (k2 : Nat) (out : List (List UInt8)), k ≤ l.length → partsGo l n k acc = some (k2, out) → ∃ ms, out = acc ++ ms ∧ ms.length = n ∧ k2 ≤ l.length ∧ l.take k2 = l.take k ++ bodyL ms
  | 0, k, acc, k2, out, hk, h => by
    simp only [partsGo, Option.some.injEq, Prod.mk.injEq] at h
    obtain ⟨rfl, rfl⟩ := h
    exact ⟨[], by simp, rfl, hk, by simp [bodyL]⟩
  | n + 1, k, acc, k2, out, hk, h => by
    by_cases hc : k + 4 + numV l k ≤ l.length
    · rw [partsGo_step hc] at h
      obtain ⟨ms, e1, e2, e3, e4⟩ := go_back l n _ _ k2 out hc h
      refine ⟨partAt l k :: ms, by rw [e1]; simp, by simp [e2], e3, ?_⟩
      rw [e4, bodyL_cons, partAt_length hc, ← List.append_assoc]
      congr 1
      rw [List.take_add, List.take_add, le4_numV l k (by omega), List.append_assoc]
      rfl
    · rw [partsGo_stop hc] at h; cases h
theorem frame_of_parts (l : List UInt8) (h : partsE l = 0) : frameOk (partsL l) = true ∧ frameL (partsL l) = l := by
  by_cases hlong : 67108864 < l.length
  · rw [(parts_long hlong).2] at h; exact absurd h (by decide)
  · cases hx : partsX l with
    | none => rw [(parts_bad hlong hx).2] at h; exact absurd h (by decide)
    | some out =>
      rw [(parts_good hlong hx).1]
      by_cases hh : 4 ≤ l.length ∧ numV l 0 ≤ 65536
      · cases hg : partsGo l (numV l 0) 4 [] with
        | none => rw [partsX_go hh hg] at hx; cases hx
        | some p =>
          obtain ⟨k2, o2⟩ := p
          rw [partsX_end hh hg] at hx
          by_cases hk : k2 = l.length
          · rw [if_pos hk] at hx
            obtain rfl := Option.some.inj hx
            obtain ⟨ms, e1, e2, e3, e4⟩ := go_back l _ 4 [] k2 o2 hh.1 hg
            rw [List.nil_append] at e1
            subst e1
            rw [hk, List.take_length] at e4
            have h4 : l.take 4 = le4 (numV l 0) := le4_numV l 0 (by omega)
            have hfl : frameL o2 = l := by unfold frameL; rw [e2, ← h4, ← e4]
            refine ⟨frameOk_true (by rw [e2]; exact hh.2) ?_, hfl⟩
            rw [← frameL_length, hfl]; omega
          · rw [if_neg hk] at hx; cases hx
      · rw [partsX_head hh] at hx; cases hx
theorem frame_inj {ls ms : List (List UInt8)} (h : frameOk ls = true) (h2 : frameOk ms = true) : frameL ls = frameL ms ↔ ls = ms :=
  ⟨fun e => by rw [← (parts_of_frame ls h).1, ← (parts_of_frame ms h2).1, e], fun e => by rw [e]⟩
theorem partsE_three (l : List UInt8) : partsE l = 0 ∨ partsE l = 2 ∨ partsE l = 30 := by
  by_cases hlong : 67108864 < l.length
  · exact .inr (.inl (parts_long hlong).2)
  · cases hx : partsX l with
    | none => exact .inr (.inr (parts_bad hlong hx).2)
    | some out => exact .inl (parts_good hlong hx).2
end Go.Proofs.YtbaeddppihjgfaaDoor.Sg
