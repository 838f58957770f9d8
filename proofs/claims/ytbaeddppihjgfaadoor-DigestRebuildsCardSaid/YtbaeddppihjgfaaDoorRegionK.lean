/- A region that draws its order, walked by one fact for each operation; the facts ahead of one operation (an append) hold until it is listed. -/
import Derived.Test.YtbaeddppihjgfaaDoorRegionJ
import Derived.Test.YtbaeddppihjgfaaDoorOwn
namespace Go.Proofs.YtbaeddppihjgfaaDoor.Sg
open Go Go.RowKit Go.Proofs.YtbaeddppihjgfaaDoorW.PrintWords
set_option linter.unusedVariables false
structure Jk (ops : Array Oper) (slot : Nat → Nat) (m : Nat) (F : Nat → Value → World → Prop) (E : Array Bool → (Nat → Value) → World → Prop) (w0 : World) (listed : Array Bool) (vs : Nat → Value) (w : World) : Prop where
  size : listed.size = ops.size
  fr : Fr No w0 w
  dep : ∀ i o, ops[i]? = some o → listed.getD i false = true → ∀ e ∈ o.after, Region.binds .any e = true → listed.getD e.on false = true
  all : ∀ i, i < ops.size → listed.getD i false = true → (i < m → listed.getD m false = false) → F i (vs (slot i)) w
  ext : E listed vs w
/-- All that stands ahead of operation j is behind some edge to it. -/
def ancOk (ops : Array Oper) (j : Nat) : Bool := (List.range j).all fun i => (List.range (j + 1)).any fun t => decide (i < t) && (match ops[t]? with | some o => o.after.toList.any fun e => decide (e.on = i) && Region.binds .any e | none => false)
section
variable {ops : Array Oper} {slot : Nat → Nat} {m : Nat} {F : Nat → Value → World → Prop} {E : Array Bool → (Nat → Value) → World → Prop} {w0 w w' : World} {listed : Array Bool} {vs : Nat → Value}
theorem Jk.anc {j : Nat} (hc : ancOk ops j = true) (h : Jk ops slot m F E w0 listed vs w) (hj : listed.getD j false = true) : ∀ i, i < j → listed.getD i false = true := by
  have key : ∀ d i, i + d = j → listed.getD i false = true := by
    intro d
    induction d using Nat.strongRecOn with
    | _ d ih =>
      intro i hi
      by_cases h0 : d = 0
      · obtain rfl : i = j := by omega
        exact hj
      have h1 := List.all_eq_true.1 hc i (List.mem_range.2 (by omega))
      obtain ⟨t, ht, h2⟩ := List.any_eq_true.1 h1
      have ht2 := List.mem_range.1 ht
      rw [Bool.and_eq_true, decide_eq_true_eq] at h2
      obtain ⟨hit, h3⟩ := h2
      cases hot : ops[t]? with
      | none => rw [hot] at h3; cases h3
      | some o =>
        rw [hot] at h3
        obtain ⟨e, he, h4⟩ := List.any_eq_true.1 h3
        rw [Bool.and_eq_true, decide_eq_true_eq] at h4
        have := h.dep t o hot (ih (j - t) (by omega) t (by omega)) e (Array.mem_toList_iff.1 he) h4.2
        rw [h4.1] at this
        exact this
  exact fun i hi => key (j - i) i (by omega)
/-- What stands ahead of an operation that is ready. -/
def ancOk' (ops : Array Oper) (j : Nat) (o : Oper) : Bool := (List.range j).all fun i => (o.after.toList.any fun e => decide (e.on = i) && Region.binds .any e) || ((List.range j).any fun t => decide (i < t) && (match ops[t]? with | some o => o.after.toList.any fun e => decide (e.on = i) && Region.binds .any e | none => false))
theorem Jk.anc' {j : Nat} {o : Oper} (hc : ancOk' ops j o = true) (h : Jk ops slot m F E w0 listed vs w) (hb : ∀ e ∈ o.after, Region.binds .any e = true → listed.getD e.on false = true) : ∀ i, i < j → listed.getD i false = true := by
  have key : ∀ d i, i + d + 1 = j → listed.getD i false = true := by
    intro d
    induction d using Nat.strongRecOn with
    | _ d ih =>
      intro i hi
      have h1 := List.all_eq_true.1 hc i (List.mem_range.2 (by omega))
      rw [Bool.or_eq_true] at h1
      rcases h1 with h1 | h1
      · obtain ⟨e, he, h4⟩ := List.any_eq_true.1 h1
        rw [Bool.and_eq_true, decide_eq_true_eq] at h4
        have := hb e (Array.mem_toList_iff.1 he) h4.2
        rw [h4.1] at this
        exact this
      · obtain ⟨t, ht, h2⟩ := List.any_eq_true.1 h1
        have ht2 := List.mem_range.1 ht
        rw [Bool.and_eq_true, decide_eq_true_eq] at h2
        obtain ⟨hit, h3⟩ := h2
        cases hot : ops[t]? with
        | none => rw [hot] at h3; cases h3
        | some o =>
          rw [hot] at h3
          obtain ⟨e, he, h4⟩ := List.any_eq_true.1 h3
          rw [Bool.and_eq_true, decide_eq_true_eq] at h4
          have := h.dep t o hot (ih (j - t - 1) (by omega) t (by omega)) e (Array.mem_toList_iff.1 he) h4.2
          rw [h4.1] at this
          exact this
  exact fun i hi => key (j - i - 1) i (by omega)
/-- All behind operation i leans on it outright. -/
def postOk (ops : Array Oper) (i : Nat) : Bool := (List.range ops.size).all fun j => decide (j ≤ i) || (match ops[j]? with | some o => o.after.toList.any fun e => decide (e.on = i) && Region.binds .any e | none => false)
theorem Jk.anc2 {i : Nat} (hc : postOk ops i = true) (h : Jk ops slot m F E w0 listed vs w) : ∀ j, i < j → listed.getD j false = true → listed.getD i false = true := fun j hij hl => by
  have hj : j < ops.size := by
    rcases Nat.lt_or_ge j ops.size with h' | h'
    · exact h'
    · have := h.size
      simp [Array.getElem?_eq_none (show listed.size ≤ j by omega)] at hl
  have h1 := List.all_eq_true.1 hc j (List.mem_range.2 hj)
  rw [Bool.or_eq_true, decide_eq_true_eq] at h1
  rcases h1 with h1 | h3
  · omega
  · cases hot : ops[j]? with
    | none => rw [hot] at h3; cases h3
    | some o =>
      rw [hot] at h3
      obtain ⟨e, he, h4⟩ := List.any_eq_true.1 h3
      rw [Bool.and_eq_true, decide_eq_true_eq] at h4
      have := h.dep j o hot hl e (Array.mem_toList_iff.1 he) h4.2
      rw [h4.1] at this
      exact this
theorem Jk.start (w0 w : World) (vs : Nat → Value) (hf : Fr No w0 w) (hE : E (Array.replicate ops.size false) vs w) : Jk ops slot m F E w0 (Array.replicate ops.size false) vs w :=
  have hn : ∀ i, (Array.replicate ops.size false).getD i false = true → False := fun i hl => by
    rw [Array.getD_eq_getD_getElem?, Array.getElem?_replicate] at hl
    split at hl <;> cases hl
  ⟨by simp, hf, fun i o _ hl => (hn i hl).elim, fun i hi hl => (hn i hl).elim, hE⟩
theorem Jk.step (h : Jk ops slot m F E w0 listed vs w) (i s : Nat) {o : Oper} (ho : ops[i]? = some o) (hs : slot i = s) (v : Value) (hb : ∀ e ∈ o.after, Region.binds .any e = true → listed.getD e.on false = true)
    (hst : ∀ j u, (i = m → m < j) → listed.getD j false = true → F j u w → F j u w') (hf : Fr No w0 w') (hinj : ∀ j, j < ops.size → slot j = s → j = i) (hv : F i v w') (hE : E (listed.setIfInBounds i true) (fun k => if k = s then v else vs k) w') :
    Jk ops slot m F E w0 (listed.setIfInBounds i true) (fun k => if k = s then v else vs k) w' := by
  subst hs
  have hi : i < ops.size := (Array.getElem?_eq_some_iff.1 ho).1
  have hself : (listed.setIfInBounds i true).getD i false = true := by simp [h.size, hi]
  refine ⟨by simp [h.size], hf, fun j oj hoj hl e he hbe => ?_, fun j hj hl hm => ?_, hE⟩
  · have hprev : listed.getD e.on false = true := by
      by_cases e1 : i = j
      · subst e1
        obtain rfl := Option.some.inj (ho.symm.trans hoj)
        exact hb e he hbe
      · rw [getD_set_ne false e1] at hl
        exact h.dep j oj hoj hl e he hbe
    by_cases e2 : i = e.on
    · rw [← e2]; exact hself
    · rw [getD_set_ne false e2]; exact hprev
  · by_cases e : i = j
    · subst e; rw [if_pos rfl]; exact hv
    · rw [getD_set_ne false e] at hl
      rw [if_neg (fun h2 => e (hinj j hj h2).symm)]
      by_cases em : i = m
      · subst em
        by_cases hjm : j < i
        · have := hm hjm
          rw [hself] at this
          cases this
        · exact hst _ _ (fun _ => by omega) hl (h.all j hj hl (fun h2 => absurd h2 hjm))
      · exact hst _ _ (fun h2 => absurd h2 em) hl (h.all j hj hl (fun h2 => by have := hm h2; rwa [getD_set_ne false em] at this))
end
theorem wpOp_val {P : Program} {ops : Array Oper} {Q : Exit → Act → World → Prop} {K : Act → World → Prop} {a : Act} {w w' : World} {i : Nat} {o : Oper} {v : Value} (hi : ops[i]? = some o) (hg : o.guard = none) (hr : (execOp a.eval o).run P w = .ok (.value v) w') (h : K (a.put o.dst v) w') : wpOp P ops Q i K a w :=
  wpOp_of hi hg (by unfold Oper.wp; rw [hr]; exact h)
theorem getD_false {l : Array Bool} {i : Nat} (h : l.getD i true = false) : l.getD i false = false := by
  by_cases hi : i < l.size
  · simpa [hi] using h
  · simp [hi] at h
theorem region_jk {P : Program} {id : Nat} {a : Act} {w : World} {ops : Array Oper} {Q : Exit → Act → World → Prop} (hm : P.follows .mixedOrders = true) (slot : Nat → Nat) (m : Nat) (F : Nat → Value → World → Prop) (E : Array Bool → (Nat → Value) → World → Prop) (A : (Nat → Value) → Act) (vs0 : Nat → Value) (ha : a = A vs0) (hE : E (Array.replicate ops.size false) vs0 w.drew)
    (hac : (List.range ops.size).all (fun i => (ops[i]?).all fun o => o.after.all fun e => decide (e.on < i)) = true)
    (hs : ∀ listed vs W i o, Jk ops slot m F E w listed vs W → ops[i]? = some o → listed.getD i false = false → (∀ e ∈ o.after, Region.binds .any e = true → listed.getD e.on false = true) →
      ∀ K : Act → World → Prop, (∀ vs' w', Jk ops slot m F E w (listed.setIfInBounds i true) vs' w' → K (A vs') w') → wpOp P ops Q i K (A vs) W)
    (hq : ∀ vs W, Fr No w W → (∀ i, i < ops.size → m ≤ i → F i (vs (slot i)) W) → Q .normal (A vs) W) :
    (Code.region id ops true).wp P Q a w := by
  refine wp_region_any hm (wpAny_inv (fun listed a W => ∃ vs, a = A vs ∧ Jk ops slot m F E w listed vs W) ?_ ?_ _ _ _ _ ?_ ?_)
  · rintro listed a W ⟨vs, rfl, hj⟩ hr
    have hall := ready_all hac hj.size hr
    exact hq vs W hj.fr (fun i hi hmi => hj.all i hi (hall i hi) (fun h => by omega))
  · rintro listed a W i o ⟨vs, rfl, hj⟩ ho hu hb
    exact hs listed vs W i o hj ho (getD_false hu) hb _ (fun vs' w' h => ⟨vs', rfl, h⟩)
  · unfold leftOf
    refine Nat.le_trans (List.length_filter_le _ _) (by simp)
  · exact ⟨vs0, ha, Jk.start _ _ _ (Fr.refl No w).drew hE⟩
end Go.Proofs.YtbaeddppihjgfaaDoor.Sg
