/- A region that draws its order, walked by what stays true: a law for wpAny. No program. -/
import Derived.Orders
import Derived.Test.YtbaeddppihjgfaaDoorBase
namespace Go.Proofs.YtbaeddppihjgfaaDoor.Sg
open Go
set_option linter.unusedVariables false
/-- How many are not listed yet. -/
def leftOf (ops : Array Oper) (listed : Array Bool) : Nat := ((List.range ops.size).filter fun i => !listed.getD i true).length
theorem left_lt {ops : Array Oper} {listed : Array Bool} {i : Nat} (hi : i < ops.size) (hl : listed.getD i true = false) : leftOf ops (listed.setIfInBounds i true) < leftOf ops listed := by
  unfold leftOf
  have hsub : ((List.range ops.size).filter fun j => !(listed.setIfInBounds i true).getD j true).Sublist ((List.range ops.size).filter fun j => !listed.getD j true) := by
    have : (fun j => !(listed.setIfInBounds i true).getD j true) = fun j => (!listed.getD j true && !(listed.setIfInBounds i true).getD j true) := by
      funext j
      by_cases e : i = j
      · subst e
        have : i < listed.size := by
          rcases Nat.lt_or_ge i listed.size with h' | h'
          · exact h'
          · simp [Array.getElem?_eq_none h'] at hl
        simp [this]
      · rw [getD_set_ne true e]; cases listed.getD j true <;> rfl
    rw [this]
    rw [show (fun j => (!listed.getD j true && !(listed.setIfInBounds i true).getD j true)) = fun j => ((fun j => !listed.getD j true) j && (fun j => !(listed.setIfInBounds i true).getD j true) j) from rfl]
    rw [show ((List.range ops.size).filter fun j => ((fun j => !listed.getD j true) j && (fun j => !(listed.setIfInBounds i true).getD j true) j)) = ((List.range ops.size).filter (fun j => !listed.getD j true)).filter (fun j => !(listed.setIfInBounds i true).getD j true) by rw [List.filter_filter]; congr 1; funext j; exact Bool.and_comm _ _]
    exact List.filter_sublist
  rcases Nat.lt_or_ge (((List.range ops.size).filter fun j => !(listed.setIfInBounds i true).getD j true).length) (((List.range ops.size).filter fun j => !listed.getD j true).length) with h | h
  · exact h
  · have heq := hsub.eq_of_length (Nat.le_antisymm hsub.length_le h)
    have hm : i ∈ (List.range ops.size).filter fun j => !listed.getD j true := by
      rw [List.mem_filter]
      exact ⟨List.mem_range.2 hi, by rw [hl]; rfl⟩
    rw [← heq, List.mem_filter] at hm
    have h2 := hm.2
    have : i < listed.size := by
      rcases Nat.lt_or_ge i listed.size with h' | h'
      · exact h'
      · simp [Array.getElem?_eq_none h'] at hl
    simp [this] at h2
theorem ready_left {md : Region.Mode} {ops : Array Oper} {listed : Array Bool} (h : leftOf ops listed = 0) : Region.ready md ops listed = [] := by
  unfold Region.ready
  unfold leftOf at h
  have h0 := List.eq_nil_of_length_eq_zero h
  rw [List.filter_eq_nil_iff] at h0 ⊢
  intro a ha hc
  refine h0 a ha ?_
  simp only [Bool.and_eq_true] at hc
  exact hc.1
/-- What stays true from operation to operation, in whatever order. -/
theorem wpAny_inv {P : Program} {md : Region.Mode} {ops : Array Oper} {Q : Exit → Act → World → Prop} (J : Array Bool → Act → World → Prop)
    (h0 : ∀ listed a w, J listed a w → Region.ready md ops listed = [] → Q .normal a w)
    (hs : ∀ listed a w i o, J listed a w → ops[i]? = some o → listed.getD i true = false → (∀ e ∈ o.after, Region.binds md e = true → listed.getD e.on false = true) →
      wpOp P ops Q i (fun a' w' => J (listed.setIfInBounds i true) a' w') a w) :
    ∀ (fuel : Nat) (listed : Array Bool) (a : Act) (w : World), leftOf ops listed ≤ fuel → J listed a w → wpAny P md ops Q fuel listed a w := by
  intro fuel
  induction fuel with
  | zero =>
    intro listed a w hl hj
    have hr : Region.ready md ops listed = [] := ready_left (by omega)
    exact ⟨hr, h0 _ _ _ hj hr⟩
  | succ fuel ih =>
    intro listed a w hl hj
    refine ⟨fun hr => h0 _ _ _ hj hr, fun i hi => ?_⟩
    obtain ⟨hu, o, ho, hb⟩ := mem_ready.1 hi
    refine wpOp_mono (fun a' w' h => ih _ _ _ ?_ h) (hs listed a w i o hj ho hu hb)
    have := left_lt (ops := ops) (Array.getElem?_eq_some_iff.1 ho).1 hu
    omega
theorem region_inv {P : Program} {id : Nat} {a : Act} {w : World} {ops : Array Oper} {Q : Exit → Act → World → Prop} (hm : P.follows .mixedOrders = true) (J : Array Bool → Act → World → Prop)
    (h : True) : True := trivial
end Go.Proofs.YtbaeddppihjgfaaDoor.Sg
