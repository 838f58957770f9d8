/- Digest trees over lists of lists, plain: the split, the root, the way, what a way comes to. No program. -/
import Derived.Test.YtbaeddppihjgfaaDoorSha
namespace Go.Proofs.YtbaeddppihjgfaaDoor.Sg
open Go Go.RowKit
set_option linter.unusedVariables false
/-- The greatest power of two below n (n is 2 at least). -/
def cutN (n : Nat) : Nat := 2 ^ (n - 1).log2
theorem cut_pos (n : Nat) : 1 ≤ cutN n := Nat.one_le_two_pow
theorem cut_lt {n : Nat} (h : 2 ≤ n) : cutN n < n := by
  have := Nat.log2_self_le (n := n - 1) (by omega)
  unfold cutN; omega
theorem cut_half {n : Nat} (h : 2 ≤ n) : n ≤ 2 * cutN n := by
  have h1 := (Nat.log2_lt (n := n - 1) (k := (n - 1).log2 + 1) (by omega)).1 (Nat.lt_succ_self _)
  unfold cutN
  rw [Nat.pow_succ] at h1; omega
/-- What the loop ends with. -/
theorem cut_unique {n j : Nat} (h2 : 2 ≤ n) (h : 2 ^ j < n) (hn : n ≤ 2 * 2 ^ j) : 2 ^ j = cutN n := by
  unfold cutN
  rw [(Nat.log2_eq_iff (n := n - 1) (k := j) (by omega)).2 ⟨by omega, by rw [Nat.pow_succ]; omega⟩]
abbrev LL := List (List UInt8)
def treeL (ls : LL) : List UInt8 :=
  if h : ls.length < 2 then
    match ls with
    | [] => sha []
    | l :: _ => sha (0 :: l)
  else sha (1 :: (treeL (ls.take (cutN ls.length)) ++ treeL (ls.drop (cutN ls.length))))
termination_by ls.length
decreasing_by
  · have := cut_lt (n := ls.length) (by omega); simp; omega
  · have := cut_pos ls.length; simp; omega
theorem tree_nil : treeL [] = sha [] := by rw [treeL]; rfl
theorem tree_one (l : List UInt8) : treeL [l] = sha (0 :: l) := by rw [treeL]; rfl
theorem tree_more (ls : LL) (h : 2 ≤ ls.length) : treeL ls = sha (1 :: (treeL (ls.take (cutN ls.length)) ++ treeL (ls.drop (cutN ls.length)))) := by
  rw [treeL, dif_neg (by omega)]
theorem tree_length (ls : LL) : (treeL ls).length = 32 := by
  rw [treeL]
  split
  · split <;> exact sha_length _
  · exact sha_length _
def wayL (ls : LL) (at_ : Nat) : LL :=
  if h : ls.length < 2 then []
  else if at_ < cutN ls.length then wayL (ls.take (cutN ls.length)) at_ ++ [treeL (ls.drop (cutN ls.length))]
  else wayL (ls.drop (cutN ls.length)) (at_ - cutN ls.length) ++ [treeL (ls.take (cutN ls.length))]
termination_by ls.length
decreasing_by
  · have := cut_lt (n := ls.length) (by omega); simp; omega
  · have := cut_pos ls.length; simp; omega
theorem way_few (ls : LL) (a : Nat) (h : ls.length < 2) : wayL ls a = [] := by rw [wayL, dif_pos h]
theorem way_left (ls : LL) (a : Nat) (h : 2 ≤ ls.length) (ha : a < cutN ls.length) : wayL ls a = wayL (ls.take (cutN ls.length)) a ++ [treeL (ls.drop (cutN ls.length))] := by rw [wayL, dif_neg (by omega), if_pos ha]
theorem way_right (ls : LL) (a : Nat) (h : 2 ≤ ls.length) (ha : ¬ a < cutN ls.length) : wayL ls a = wayL (ls.drop (cutN ls.length)) (a - cutN ls.length) ++ [treeL (ls.take (cutN ls.length))] := by rw [wayL, dif_neg (by omega), if_neg ha]
/-- The turns of a way, the lowest first. -/
def turnsW (a n : Nat) : List Bool :=
  if h : n < 2 then []
  else if a < cutN n then turnsW a (cutN n) ++ [false]
  else turnsW (a - cutN n) (n - cutN n) ++ [true]
termination_by n
decreasing_by
  · exact cut_lt (by omega)
  · have := cut_pos n; omega
theorem turns_few (a n : Nat) (h : n < 2) : turnsW a n = [] := by rw [turnsW, dif_pos h]
theorem turns_left (a n : Nat) (h : 2 ≤ n) (ha : a < cutN n) : turnsW a n = turnsW a (cutN n) ++ [false] := by rw [turnsW, dif_neg (by omega), if_pos ha]
theorem turns_right (a n : Nat) (h : 2 ≤ n) (ha : ¬ a < cutN n) : turnsW a n = turnsW (a - cutN n) (n - cutN n) ++ [true] := by rw [turnsW, dif_neg (by omega), if_neg ha]
def stepsN (a n : Nat) : Nat := (turnsW a n).length
theorem steps_few (a n : Nat) (h : n < 2) : stepsN a n = 0 := by unfold stepsN; rw [turns_few a n h]; rfl
theorem steps_left (a n : Nat) (h : 2 ≤ n) (ha : a < cutN n) : stepsN a n = 1 + stepsN a (cutN n) := by unfold stepsN; rw [turns_left a n h ha, List.length_append, Nat.add_comm]; rfl
theorem steps_right (a n : Nat) (h : 2 ≤ n) (ha : ¬ a < cutN n) : stepsN a n = 1 + stepsN (a - cutN n) (n - cutN n) := by unfold stepsN; rw [turns_right a n h ha, List.length_append, Nat.add_comm]; rfl
theorem steps_lt (n : Nat) : ∀ a, 1 ≤ n → stepsN a n < n := by
  induction n using Nat.strongRecOn with
  | _ n ih =>
    intro a h1
    by_cases h : n < 2
    · rw [steps_few a n h]; omega
    · have c1 := cut_pos n
      have c2 := cut_lt (n := n) (by omega)
      by_cases ha : a < cutN n
      · rw [steps_left a n (by omega) ha]; have := ih (cutN n) c2 a c1; omega
      · rw [steps_right a n (by omega) ha]; have := ih (n - cutN n) (by omega) (a - cutN n) (by omega); omega
theorem way_length (ls : LL) : ∀ a, (wayL ls a).length = stepsN a ls.length := by
  generalize hn : ls.length = n
  induction n using Nat.strongRecOn generalizing ls with
  | _ n ih =>
    intro a
    by_cases h : n < 2
    · rw [way_few ls a (by omega), steps_few a n h]; rfl
    · have c1 := cut_pos n
      have c2 := cut_lt (n := n) (by omega)
      by_cases ha : a < cutN n
      · rw [way_left ls a (by omega) (by rw [hn]; exact ha), steps_left a n (by omega) ha, List.length_append, hn, ih (cutN n) c2 _ (by simp; omega)]
        simp; omega
      · rw [way_right ls a (by omega) (by rw [hn]; exact ha), steps_right a n (by omega) ha, List.length_append, hn, ih (n - cutN n) (by omega) _ (by simp; omega)]
        simp; omega
/-- One step up. -/
def stepUp (d : List UInt8) (x : Bool × List UInt8) : List UInt8 := if x.1 then sha (1 :: (x.2 ++ d)) else sha (1 :: (d ++ x.2))
/-- To what a leaf comes by a way. -/
def comeL (leaf : List UInt8) (a n : Nat) (proof : LL) : List UInt8 := ((turnsW a n).zip proof).foldl stepUp (sha (0 :: leaf))
theorem comeL_length (leaf : List UInt8) (a n : Nat) (proof : LL) : (comeL leaf a n proof).length = 32 := by
  unfold comeL
  generalize hd : sha (0 :: leaf) = d
  have hl : d.length = 32 := by rw [← hd]; exact sha_length _
  clear hd
  generalize (turnsW a n).zip proof = xs
  induction xs generalizing d with
  | nil => exact hl
  | cons x xs ih =>
    refine ih _ ?_
    unfold stepUp
    split <;> exact sha_length _
theorem come_few (leaf : List UInt8) (a n : Nat) (proof : LL) (h : n < 2) : comeL leaf a n proof = sha (0 :: leaf) := by unfold comeL; rw [turns_few a n h]; rfl
theorem come_left (leaf : List UInt8) (a n : Nat) (proof : LL) (p : List UInt8) (h : 2 ≤ n) (ha : a < cutN n) (hl : proof.length = stepsN a (cutN n)) : comeL leaf a n (proof ++ [p]) = sha (1 :: (comeL leaf a (cutN n) proof ++ p)) := by
  unfold comeL
  rw [turns_left a n h ha, List.zip_append (by rw [hl]; rfl), List.foldl_append]
  rfl
theorem come_right (leaf : List UInt8) (a n : Nat) (proof : LL) (p : List UInt8) (h : 2 ≤ n) (ha : ¬ a < cutN n) (hl : proof.length = stepsN (a - cutN n) (n - cutN n)) : comeL leaf a n (proof ++ [p]) = sha (1 :: (p ++ comeL leaf (a - cutN n) (n - cutN n) proof)) := by
  unfold comeL
  rw [turns_right a n h ha, List.zip_append (by rw [hl]; rfl), List.foldl_append]
  rfl
theorem come_way_n (n : Nat) : ∀ (ls : LL), ls.length = n → ∀ a (ha : a < ls.length), comeL ls[a] a n (wayL ls a) = treeL ls := by
  induction n using Nat.strongRecOn with
  | _ n ih =>
    intro ls hn a ha
    by_cases h : n < 2
    · have h1 : ls.length = 1 := by omega
      obtain ⟨l, rfl⟩ := List.length_eq_one_iff.1 h1
      obtain rfl : a = 0 := by simp at ha; exact ha
      rw [come_few _ _ _ _ h, tree_one]; rfl
    · have c1 := cut_pos n
      have c2 := cut_lt (n := n) (by omega)
      by_cases hc : a < cutN n
      · rw [way_left ls a (by omega) (by rw [hn]; exact hc), tree_more ls (by omega), hn, come_left _ _ _ _ _ (by omega) hc (by rw [way_length]; congr 1; simp; omega)]
        have := ih (cutN n) c2 (ls.take (cutN n)) (by simp; omega) a (by simp; omega)
        rw [List.getElem_take] at this
        rw [this]
      · rw [way_right ls a (by omega) (by rw [hn]; exact hc), tree_more ls (by omega), hn, come_right _ _ _ _ _ (by omega) hc (by rw [way_length]; congr 1; simp; omega)]
        have := ih (n - cutN n) (by omega) (ls.drop (cutN n)) (by simp; omega) (a - cutN n) (by simp; omega)
        rw [List.getElem_drop] at this
        simp only [show cutN n + (a - cutN n) = a by omega] at this
        rw [this]
/-- A leaf comes by its way to the root. -/
theorem come_way (ls : LL) (a : Nat) (ha : a < ls.length) : comeL ls[a] a ls.length (wayL ls a) = treeL ls := come_way_n _ ls rfl a ha
end Go.Proofs.YtbaeddppihjgfaaDoor.Sg
