/- A region that draws its order, walked by facts; the frame stays closed, each operation sees the slots that it reads. -/
import Derived.Test.YtbaeddppihjgfaaDoorRegionK
namespace Go.Proofs.YtbaeddppihjgfaaDoor.Sg
open Go Go.RowKit Go.Proofs.YtbaeddppihjgfaaDoorW.PrintWords
set_option linter.unusedVariables false
/-- The frame a, with the slots as vs tells. -/
def Jact (a : Act) (slots : List Nat) (vs : Nat → Value) : Act := { tmps := slots.foldl (fun t s => t.setIfInBounds s (vs s)) a.tmps, defers := a.defers }
section
variable {a : Act} {slots : List Nat} {vs : Nat → Value}
theorem fold_get (slots : List Nat) (vs : Nat → Value) : ∀ (t : Array Value) (k : Nat), (slots.foldl (fun t s => t.setIfInBounds s (vs s)) t)[k]? = if k ∈ slots ∧ k < t.size then some (vs k) else t[k]? := by
  induction slots with
  | nil => intro t k; rw [if_neg (fun h => by cases h.1)]; rfl
  | cons s ss ih =>
    intro t k
    rw [List.foldl_cons, ih, Array.size_setIfInBounds]
    by_cases h1 : k ∈ ss ∧ k < t.size
    · rw [if_pos h1, if_pos ⟨List.mem_cons_of_mem _ h1.1, h1.2⟩]
    · rw [if_neg h1, Array.getElem?_setIfInBounds]
      by_cases h2 : s = k
      · subst h2
        rw [if_pos rfl]
        by_cases h3 : s < t.size
        · rw [if_pos h3, if_pos ⟨List.mem_cons_self, h3⟩]
        · rw [if_neg h3, if_neg (fun h => h3 h.2), Array.getElem?_eq_none (by omega)]
      · rw [if_neg h2]
        by_cases h3 : k ∈ s :: ss ∧ k < t.size
        · rcases List.mem_cons.1 h3.1 with h4 | h4
          · exact absurd h4.symm h2
          · exact absurd ⟨h4, h3.2⟩ h1
        · rw [if_neg h3]
theorem Jact_get (k : Nat) : (Jact a slots vs).tmps[k]? = if k ∈ slots ∧ k < a.tmps.size then some (vs k) else a.tmps[k]? := fold_get _ _ _ _
theorem Jact_size : (Jact a slots vs).tmps.size = a.tmps.size := by
  unfold Jact
  dsimp only
  generalize a.tmps = t
  induction slots generalizing t with
  | nil => rfl
  | cons s ss ih => rw [List.foldl_cons, ih, Array.size_setIfInBounds]
theorem Act_ext {x y : Act} (h : ∀ k : Nat, x.tmps[k]? = y.tmps[k]?) (hd : x.defers = y.defers) : x = y := by
  cases x; cases y
  simp only [Act.mk.injEq]
  exact ⟨Array.ext_getElem? h, hd⟩
theorem Jact_start : Jact a slots (fun k => a.tmps.getD k undef) = a := Act_ext (fun k => by
  rw [Jact_get]
  split
  · next h => simp [h.2]
  · rfl) rfl
theorem Jact_put (s : Nat) (hs : s ∈ slots) (v : Value) : (Jact a slots vs).put (some s) v = Jact a slots (fun k => if k = s then v else vs k) := Act_ext (fun k => by
  show ((Jact a slots vs).tmps.setIfInBounds s v)[k]? = _
  rw [Array.getElem?_setIfInBounds, Jact_get, Jact_get, Jact_size]
  by_cases h : s = k
  · subst h
    rw [if_pos rfl]
    by_cases h2 : s < a.tmps.size
    · rw [if_pos h2, if_pos ⟨hs, h2⟩, if_pos rfl]
    · rw [if_neg h2, if_neg (fun h => h2 h.2), Array.getElem?_eq_none (by omega)]
  · rw [if_neg h]
    by_cases h2 : k ∈ slots ∧ k < a.tmps.size
    · rw [if_pos h2, if_pos h2, if_neg (fun e => h e.symm)]
    · rw [if_neg h2, if_neg h2]) rfl
theorem Jact_none (s : Nat) (hs : ¬ s ∈ slots) (v : Value) : Jact a slots vs = Jact a slots (fun k => if k = s then v else vs k) := Act_ext (fun k => by
  rw [Jact_get, Jact_get]
  by_cases h2 : k ∈ slots ∧ k < a.tmps.size
  · rw [if_pos h2, if_pos h2, if_neg (fun e => hs (by rw [← e]; exact h2.1))]
  · rw [if_neg h2, if_neg h2]) rfl
/-- What a slot of the region holds; what another slot holds. -/
theorem Jact_in {b : Act} (hb : b = Jact a slots vs) (k : Nat) (hk : (decide (k ∈ slots) && decide (k < a.tmps.size)) = true) : b.tmps[k]?.getD undef = vs k := by
  rw [Bool.and_eq_true, decide_eq_true_eq, decide_eq_true_eq] at hk
  subst hb
  rw [Jact_get, if_pos hk]
  rfl
theorem Jact_out {b : Act} (hb : b = Jact a slots vs) (k : Nat) (hk : decide (k ∈ slots) = false) : b.tmps[k]?.getD undef = a.tmps[k]?.getD undef := by
  rw [decide_eq_false_iff_not] at hk
  subst hb
  rw [Jact_get, if_neg (fun h => hk h.1)]
theorem Jact_yield {b : Act} (hb : b = Jact a slots vs) {ops : Array Oper} (j k : Nat) (hk : (decide (k ∈ slots) && decide (k < a.tmps.size)) = true) (hd : (ops[j]?).bind (·.dst) = some k) (x : Bool) (hx : vs k = .bool x) : yielded ops b.tmps j = some x := by
  rw [Bool.and_eq_true, decide_eq_true_eq, decide_eq_true_eq] at hk
  subst hb
  unfold yielded
  rw [hd]
  show (match (Jact a slots vs).tmps[k]? with | some (.bool b) => some b | _ => none) = some x
  rw [Jact_get, if_pos hk, hx]
end
/-- What stays true: each fact of what is listed (ahead of operation m until that is listed), and E. -/
structure Jb (ops : Array Oper) (slot : Nat → Nat) (m : Nat) (F : Nat → Value → World → Prop) (E : Array Bool → (Nat → Value) → World → Prop) (listed : Array Bool) (vs : Nat → Value) (w : World) : Prop where
  size : listed.size = ops.size
  dep : ∀ i o, ops[i]? = some o → listed.getD i false = true → ∀ e ∈ o.after, Region.binds .any e = true → listed.getD e.on false = true
  all : ∀ i, i < ops.size → listed.getD i false = true → (i < m → listed.getD m false = false) → F i (vs (slot i)) w
  ext : E listed vs w
section
variable {ops : Array Oper} {slot : Nat → Nat} {m : Nat} {F : Nat → Value → World → Prop} {E : Array Bool → (Nat → Value) → World → Prop} {w w' : World} {listed : Array Bool} {vs : Nat → Value}
theorem Jb.anc' {j : Nat} {o : Oper} (hc : ancOk' ops j o = true) (h : Jb ops slot m F E listed vs w) (hb : ∀ e ∈ o.after, Region.binds .any e = true → listed.getD e.on false = true) : ∀ i, i < j → listed.getD i false = true :=
  Jk.anc' (slot := slot) (m := 0) (F := fun _ _ _ => True) (E := fun _ _ _ => True) (w0 := w) (vs := vs) (w := w) hc ⟨h.size, Fr.refl _ _, h.dep, fun _ _ _ _ => trivial, trivial⟩ hb
theorem Jb.anc {j : Nat} (hc : ancOk ops j = true) (h : Jb ops slot m F E listed vs w) (hj : listed.getD j false = true) : ∀ i, i < j → listed.getD i false = true :=
  Jk.anc (slot := slot) (m := 0) (F := fun _ _ _ => True) (E := fun _ _ _ => True) (w0 := w) (vs := vs) (w := w) hc ⟨h.size, Fr.refl _ _, h.dep, fun _ _ _ _ => trivial, trivial⟩ hj
theorem Jb.anc2 {i : Nat} (hc : postOk ops i = true) (h : Jb ops slot m F E listed vs w) : ∀ j, i < j → listed.getD j false = true → listed.getD i false = true :=
  Jk.anc2 (slot := slot) (m := 0) (F := fun _ _ _ => True) (E := fun _ _ _ => True) (w0 := w) (vs := vs) (w := w) hc ⟨h.size, Fr.refl _ _, h.dep, fun _ _ _ _ => trivial, trivial⟩
theorem Jb.step (h : Jb ops slot m F E listed vs w) (i : Nat) {o : Oper} (ho : ops[i]? = some o) (v : Value) (hb : ∀ e ∈ o.after, Region.binds .any e = true → listed.getD e.on false = true)
    (hst : ∀ j u, (i = m → m < j) → listed.getD j false = true → F j u w → F j u w') (hinj : ∀ j, j < ops.size → slot j = slot i → j = i) (hv : F i v w') (hE : E (listed.setIfInBounds i true) (fun k => if k = slot i then v else vs k) w') :
    Jb ops slot m F E (listed.setIfInBounds i true) (fun k => if k = slot i then v else vs k) w' := by
  have hi : i < ops.size := (Array.getElem?_eq_some_iff.1 ho).1
  have hself : (listed.setIfInBounds i true).getD i false = true := by simp [h.size, hi]
  refine ⟨by simp [h.size], fun j oj hoj hl e he hbe => ?_, fun j hj hl hm => ?_, hE⟩
  · have hprev : listed.getD e.on false = true := by
      by_cases e1 : i = j
      · subst e1
        obtain rfl := Option.some.inj (ho.symm.trans hoj)
        exact hb e he hbe
      · rw [getD_set_ne false e1] at hl
        exact h.dep j oj hoj hl e he hbe
    by_cases e2 : i = e.on
    · rw [← e2]; exact hself
    · rw [getD_set_ne false e2]; exact hprev
  · by_cases e : i = j
    · subst e; rw [if_pos rfl]; exact hv
    · rw [getD_set_ne false e] at hl
      rw [if_neg (fun h2 => e (hinj j hj h2).symm)]
      by_cases em : i = m
      · subst em
        by_cases hjm : j < i
        · have := hm hjm
          rw [hself] at this
          cases this
        · exact hst _ _ (fun _ => by omega) hl (h.all j hj hl (fun h2 => absurd h2 hjm))
      · exact hst _ _ (fun h2 => absurd h2 em) hl (h.all j hj hl (fun h2 => by have := hm h2; rwa [getD_set_ne false em] at this))
end
def slotsOk (ops : Array Oper) (slot : Nat → Nat) (slots : List Nat) : Bool := (List.range ops.size).all fun i => match (ops[i]?).bind (·.dst) with | some s => decide (slot i = s) && decide (s ∈ slots) | none => !decide (slot i ∈ slots)
/-- The slots of different operations are different. -/
def injOk (ops : Array Oper) (slot : Nat → Nat) : Bool := (List.range ops.size).all fun i => (List.range ops.size).all fun j => decide (slot j = slot i → j = i)
theorem wpOp_guard {P : Program} {ops : Array Oper} {Q : Exit → Act → World → Prop} {K : Act → World → Prop} {a : Act} {w : World} {i j : Nat} {o : Oper} {x : Bool} (hi : ops[i]? = some o) (hg : o.guard = some (j, x)) (hy : yielded ops a.tmps j = some x) (h : o.wp P a w K Q) : wpOp P ops Q i K a w := by
  unfold wpOp
  simp only [hi]
  rw [if_pos (by simp [Region.wanted, hg, hy])]
  exact .inl h
theorem wpOp_skip {P : Program} {ops : Array Oper} {Q : Exit → Act → World → Prop} {K : Act → World → Prop} {a : Act} {w : World} {i j : Nat} {o : Oper} {x y : Bool} (hi : ops[i]? = some o) (hg : o.guard = some (j, x)) (hy : yielded ops a.tmps j = some y) (hxy : y ≠ x) (h : K (a.put o.dst undef) w) : wpOp P ops Q i K a w := by
  unfold wpOp
  simp only [hi]
  rw [if_neg (by simp [Region.wanted, hg, hy, hxy])]
  exact h
theorem region_jb {P : Program} {id : Nat} {a : Act} {w : World} {ops : Array Oper} {Q : Exit → Act → World → Prop} (hm : P.follows .mixedOrders = true) (N : Nat) (hN : a.tmps.size = N) (slot : Nat → Nat) (slots : List Nat) (m : Nat) (F : Nat → Value → World → Prop) (E : Array Bool → (Nat → Value) → World → Prop)
    (hE : ∀ vs, E (Array.replicate ops.size false) vs w.drew)
    (hac : (List.range ops.size).all (fun i => (ops[i]?).all fun o => o.after.all fun e => decide (e.on < i)) = true) (hsl : slotsOk ops slot slots = true) (hin : injOk ops slot = true)
    (hs : ∀ listed vs W i o b, Jb ops slot m F E listed vs W → ops[i]? = some o → listed.getD i false = false → (∀ e ∈ o.after, Region.binds .any e = true → listed.getD e.on false = true) →
      (∀ k, (decide (k ∈ slots) && decide (k < N)) = true → b.tmps[k]?.getD undef = vs k) → (∀ k, decide (k ∈ slots) = false → b.tmps[k]?.getD undef = a.tmps[k]?.getD undef) →
      (∀ j k x, (decide (k ∈ slots) && decide (k < N)) = true → (ops[j]?).bind (·.dst) = some k → vs k = .bool x → yielded ops b.tmps j = some x) →
      ∀ K : Act → World → Prop, (∀ v w', (∀ j u, (i = m → m < j) → listed.getD j false = true → F j u W → F j u w') → F i v w' → E (listed.setIfInBounds i true) (fun k => if k = slot i then v else vs k) w' → K (b.put o.dst v) w') → wpOp P ops Q i K b W)
    (hq : ∀ vs W, (∀ i, i < ops.size → m ≤ i → F i (vs (slot i)) W) → (∃ listed : Array Bool, (∀ i, i < ops.size → listed.getD i false = true) ∧ E listed vs W) → Q .normal (Jact a slots vs) W) :
    (Code.region id ops true).wp P Q a w := by
  have hinj : ∀ i, i < ops.size → ∀ j, j < ops.size → slot j = slot i → j = i := fun i hi j hj => by
    have h1 := List.all_eq_true.1 (List.all_eq_true.1 hin i (List.mem_range.2 hi)) j (List.mem_range.2 hj)
    exact of_decide_eq_true h1
  refine wp_region_any hm (wpAny_inv (fun listed b W => ∃ vs, b = Jact a slots vs ∧ Jb ops slot m F E listed vs W) ?_ ?_ _ _ _ _ ?_ ?_)
  · rintro listed b W ⟨vs, rfl, hj⟩ hr
    have hall := ready_all hac hj.size hr
    exact hq vs W (fun i hi hmi => hj.all i hi (hall i hi) (fun h => by omega)) ⟨listed, hall, hj.ext⟩
  · rintro listed b W i o ⟨vs, hb0, hj⟩ ho hu hb
    have hi : i < ops.size := (Array.getElem?_eq_some_iff.1 ho).1
    subst hN
    refine hs listed vs W i o b hj ho (getD_false hu) hb (fun k hk => Jact_in hb0 k hk) (fun k hk => Jact_out hb0 k hk) (fun j k x hk hd hx => Jact_yield hb0 j k hk hd x hx) _ (fun v w' h1 h2 h3 => ⟨_, ?_, hj.step i ho v hb h1 (hinj i hi) h2 h3⟩)
    have h4 := List.all_eq_true.1 hsl i (List.mem_range.2 hi)
    rw [ho] at h4
    subst hb0
    cases hd : o.dst with
    | none =>
      have h5 : (!decide (slot i ∈ slots)) = true := by simpa [hd] using h4
      exact Jact_none (slot i) (by simpa using h5) v
    | some s =>
      have h5 : (decide (slot i = s) && decide (s ∈ slots)) = true := by simpa [hd] using h4
      rw [Bool.and_eq_true, decide_eq_true_eq, decide_eq_true_eq] at h5
      rw [h5.1]
      exact Jact_put s h5.2 v
  · unfold leftOf
    refine Nat.le_trans (List.length_filter_le _ _) (by simp)
  · refine ⟨fun k => a.tmps.getD k undef, Jact_start.symm, by simp, fun i o _ hl => (?_ : _), fun i hi hl => (?_ : _), hE _⟩
    · intro e _ _
      rw [Array.getD_eq_getD_getElem?, Array.getElem?_replicate] at hl
      split at hl <;> cases hl
    · rw [Array.getD_eq_getD_getElem?, Array.getElem?_replicate] at hl
      split at hl <;> cases hl
/-- Two slots' values the same everywhere but at those of the region. -/
theorem Jact_lit (a : Act) (slots : List Nat) (vs : Nat → Value) : Jact a slots vs = { tmps := slots.foldl (fun t s => t.setIfInBounds s (vs s)) a.tmps, defers := a.defers } := rfl
end Go.Proofs.YtbaeddppihjgfaaDoor.Sg
