/- A region that draws its order: by what stays true; by one fact for each operation; lists of lists of the call's own. (Of the printed words and the given types alone.) -/
import Derived.Orders
import Derived.Test.YtbaeddppihjgfaaDoorRooms
import Derived.Test.YtbaeddppihjgfaaDoorOpenRows
import Derived.Test.YtbaeddppihjgfaaDoorWApart
namespace Go.Proofs.YtbaeddppihjgfaaDoor.Sg
open Go Go.RowKit Go.Proofs.YtbaeddppihjgfaaDoorW.PrintWords
set_option linter.unusedVariables false
/-- How many are not listed yet. -/
def leftOf (ops : Array Oper) (listed : Array Bool) : Nat := ((List.range ops.size).filter fun i => !listed.getD i true).length
theorem left_lt {ops : Array Oper} {listed : Array Bool} {i : Nat} (hi : i < ops.size) (hl : listed.getD i true = false) : leftOf ops (listed.setIfInBounds i true) < leftOf ops listed := by
  unfold leftOf
  have hsub : ((List.range ops.size).filter fun j => !(listed.setIfInBounds i true).getD j true).Sublist ((List.range ops.size).filter fun j => !listed.getD j true) := by
    have : (fun j => !(listed.setIfInBounds i true).getD j true) = fun j => (!listed.getD j true && !(listed.setIfInBounds i true).getD j true) := by
      funext j
      by_cases e : i = j
      · subst e
        have : i < listed.size := by
          rcases Nat.lt_or_ge i listed.size with h' | h'
          · exact h'
          · simp [Array.getElem?_eq_none h'] at hl
        simp [this]
      · rw [getD_set_ne true e]; cases listed.getD j true <;> rfl
    rw [this]
    rw [show (fun j => (!listed.getD j true && !(listed.setIfInBounds i true).getD j true)) = fun j => ((fun j => !listed.getD j true) j && (fun j => !(listed.setIfInBounds i true).getD j true) j) from rfl]
    rw [show ((List.range ops.size).filter fun j => ((fun j => !listed.getD j true) j && (fun j => !(listed.setIfInBounds i true).getD j true) j)) = ((List.range ops.size).filter (fun j => !listed.getD j true)).filter (fun j => !(listed.setIfInBounds i true).getD j true) by rw [List.filter_filter]; congr 1; funext j; exact Bool.and_comm _ _]
    exact List.filter_sublist
  rcases Nat.lt_or_ge (((List.range ops.size).filter fun j => !(listed.setIfInBounds i true).getD j true).length) (((List.range ops.size).filter fun j => !listed.getD j true).length) with h | h
  · exact h
  · have heq := hsub.eq_of_length (Nat.le_antisymm hsub.length_le h)
    have hm : i ∈ (List.range ops.size).filter fun j => !listed.getD j true := by
      rw [List.mem_filter]
      exact ⟨List.mem_range.2 hi, by rw [hl]; rfl⟩
    rw [← heq, List.mem_filter] at hm
    have h2 := hm.2
    have : i < listed.size := by
      rcases Nat.lt_or_ge i listed.size with h' | h'
      · exact h'
      · simp [Array.getElem?_eq_none h'] at hl
    simp [this] at h2
theorem ready_left {md : Region.Mode} {ops : Array Oper} {listed : Array Bool} (h : leftOf ops listed = 0) : Region.ready md ops listed = [] := by
  unfold Region.ready
  unfold leftOf at h
  have h0 := List.eq_nil_of_length_eq_zero h
  rw [List.filter_eq_nil_iff] at h0 ⊢
  intro a ha hc
  refine h0 a ha ?_
  simp only [Bool.and_eq_true] at hc
  exact hc.1
/-- What stays true from operation to operation, in whatever order. -/
theorem wpAny_inv {P : Program} {md : Region.Mode} {ops : Array Oper} {Q : Exit → Act → World → Prop} (J : Array Bool → Act → World → Prop)
    (h0 : ∀ listed a w, J listed a w → Region.ready md ops listed = [] → Q .normal a w)
    (hs : ∀ listed a w i o, J listed a w → ops[i]? = some o → listed.getD i true = false → (∀ e ∈ o.after, Region.binds md e = true → listed.getD e.on false = true) →
      wpOp P ops Q i (fun a' w' => J (listed.setIfInBounds i true) a' w') a w) :
    ∀ (fuel : Nat) (listed : Array Bool) (a : Act) (w : World), leftOf ops listed ≤ fuel → J listed a w → wpAny P md ops Q fuel listed a w := by
  intro fuel
  induction fuel with
  | zero =>
    intro listed a w hl hj
    have hr : Region.ready md ops listed = [] := ready_left (by omega)
    exact ⟨hr, h0 _ _ _ hj hr⟩
  | succ fuel ih =>
    intro listed a w hl hj
    refine ⟨fun hr => h0 _ _ _ hj hr, fun i hi => ?_⟩
    obtain ⟨hu, o, ho, hb⟩ := mem_ready.1 hi
    refine wpOp_mono (fun a' w' h => ih _ _ _ ?_ h) (hs listed a w i o hj ho hu hb)
    have := left_lt (ops := ops) (Array.getElem?_eq_some_iff.1 ho).1 hu
    omega
theorem region_inv {P : Program} {id : Nat} {a : Act} {w : World} {ops : Array Oper} {Q : Exit → Act → World → Prop} (hm : P.follows .mixedOrders = true) (J : Array Bool → Act → World → Prop)
    (h : True) : True := trivial
theorem ready_all {md : Region.Mode} {ops : Array Oper} {listed : Array Bool} (hd' : (List.range ops.size).all (fun i => (ops[i]?).all fun o => o.after.all fun e => decide (e.on < i)) = true) (hs : listed.size = ops.size) (h : Region.ready md ops listed = []) :
    ∀ i, i < ops.size → listed.getD i false = true := by
  have hd : ∀ (i : Nat) (o : Oper), ops[i]? = some o → ∀ e ∈ o.after, e.on < i := fun i o ho e he => by
    have h1 := List.all_eq_true.1 hd' i (List.mem_range.2 (Array.getElem?_eq_some_iff.1 ho).1)
    rw [ho] at h1
    have h2 := Array.all_eq_true_iff_forall_mem.1 h1 e he
    simpa using h2
  intro i
  induction i using Nat.strongRecOn with
  | _ i ih =>
    intro hi
    have e2 : ∀ b, listed.getD i b = listed[i]'(by omega) := fun b => by simp [show i < listed.size by omega]
    cases hc : listed[i]'(by omega) with
    | true => rw [e2, hc]
    | false =>
      have : i ∈ Region.ready md ops listed := mem_ready.2 ⟨by rw [e2, hc], ops[i], by simp [hi], fun e he _ => ih e.on (hd i _ (by simp [hi]) e he) (by have := hd i _ (by simp [hi]) e he; omega)⟩
      rw [h] at this
      cases this
theorem wpOp_of {P : Program} {ops : Array Oper} {Q : Exit → Act → World → Prop} {K : Act → World → Prop} {a : Act} {w : World} {i : Nat} {o : Oper} (hi : ops[i]? = some o) (hg : o.guard = none) (h : o.wp P a w K Q) : wpOp P ops Q i K a w := by
  unfold wpOp
  simp only [hi]
  rw [if_pos (by simp [Region.wanted, hg])]
  exact .inl h
/-- Block b holds these cells, marked or not. -/
def HB (w : World) (b : Nat) (C : Array Value) (t : TypeId) : Prop := ∃ m, w.heap[b]? = some (.cells C t m)
/-- The rows stay, but for marks. -/
def St (w w' : World) : Prop := ∀ b C t, HB w b C t → HB w' b C t
theorem St.alloc (w : World) (o : Obj) : St w (w.alloc o) := fun b C t ⟨m, h⟩ => ⟨m, (Below.heap_alloc _ _ _ (Array.getElem?_eq_some_iff.1 h).1).trans h⟩
theorem St.freeze (w : World) (a : Addr) (n : Nat) : St w (w.freeze a n) := fun b C t ⟨m, h⟩ => by
  unfold World.freeze
  split
  · exact ⟨m, h⟩
  · unfold HB
    simp only [Array.getElem?_modify]
    split
    · next e => subst e; rw [h]; exact ⟨_, rfl⟩
    · exact ⟨m, h⟩
theorem Fr.freeze {S : Nat → Prop} {w w1 : World} (h : Fr S w w1) {a : Addr} (n : Nat) (hp : S a.block ∨ w.heap.size ≤ a.block) : Fr S w (w1.freeze a n) := by
  refine h.trans (S2 := fun k => k = a.block) ?_ (fun k hk => by rw [hk]; exact hp)
  unfold World.freeze
  split
  · exact Fr.refl _ _
  · exact ⟨rfl, rfl, rfl, by simp, fun k hk hn => by simp only [Array.getElem?_modify]; rw [if_neg (fun e => hn e.symm)]⟩
theorem run_convert_marked {P : Program} (w : World) (t e : TypeId) (C : Array Value) (b n c : Nat) (ht : P.underlying t = some (.slice e)) (he : P.underlying e = some (.int .u8)) (h : HB w b C e) :
    (convert t t (.slice (some ⟨b, 0, none⟩) n c)).run P w = .ok (.slice (some ⟨b, 0, none⟩) n c) (w.freeze ⟨b, C.size, none⟩ 1) := by
  obtain ⟨m, hb⟩ := h
  have hsh : w.shape? b = some (e, C.size) := by unfold World.shape?; rw [hb]
  simp [convert, run_underlying ht, run_underlying he, markStringish, hsh]
theorem heap_new_HB (w : World) (C : Array Value) (t : TypeId) : HB (w.alloc (.cells C t)) w.heap.size C t := ⟨_, heap_alloc_new w _⟩
/-- What is there stays as it reads. -/
structure Gr (w w' : World) : Prop where
  st : St w w'
  ck : ∀ a v, w.cell? a = some v → w'.cell? a = some v
  size : w.heap.size ≤ w'.heap.size
theorem Gr.refl (w : World) : Gr w w := ⟨fun _ _ _ h => h, fun _ _ h => h, Nat.le_refl _⟩
theorem Gr.of_fr {w w' : World} (h : Fr No w w') : Gr w w' := ⟨fun b C t ⟨m, hb⟩ => ⟨m, h.heap hb id⟩, fun a v hc => h.cell hc id, h.size⟩
theorem Gr.alloc (w : World) (o : Obj) : Gr w (w.alloc o) := .of_fr ((Fr.refl No w).alloc o)
theorem Gr.drew (w : World) : Gr w w.drew := .of_fr (Fr.refl No w).drew
theorem Gr.freeze (w : World) (a : Addr) (n : Nat) : Gr w (w.freeze a n) := by
  by_cases h0 : n = 0
  · unfold World.freeze; rw [if_pos h0]; exact .refl w
  · refine ⟨St.freeze w a n, fun p v hc => ?_, ?_⟩
    · unfold World.freeze
      rw [if_neg h0]
      unfold World.cell? at hc ⊢
      simp only [Array.getElem?_modify]
      by_cases e : a.block = p.block
      · rw [if_pos e]
        cases hb : w.heap[p.block]? with
        | none => rw [hb] at hc; cases hc
        | some o =>
          rw [hb] at hc
          cases o <;> first | exact hc | cases hc
      · rw [if_neg e]; exact hc
    · unfold World.freeze
      rw [if_neg h0]
      simp
theorem Rb.gr {w w' : World} {A : Option Addr} {l : List UInt8} (h : Rb w A l) (hg : Gr w w') : Rb w' A l := by
  refine Kd.C_of_reads (enc := Value.int .u8) (d := (0 : Int)) (h1 := fun _ => rfl) ⟨bi_length l, Rb_le h, fun hp => ?_⟩
  have h' : Kd.C (Kd.int .u8) w A (bi l).length (bi l) := by rw [bi_length]; exact h
  obtain ⟨ad, e, hc⟩ := C_cells h' (by rw [bi_length]; omega)
  refine ⟨ad, e, fun j hj => hg.ck _ _ (hc j _ ?_)⟩
  have hj2 : j < (bi l).length := by rw [bi_length]; omega
  simp [nums, List.getD_eq_getElem?_getD, List.getElem?_eq_getElem hj2]
theorem Rbs_le {w : World} {A : Option Addr} {ls : List (List UInt8)} (h : Rbs w A ls) : ls.length ≤ 9223372036854775807 := h.2.1
theorem Rbs.gr {w w' : World} {A : Option Addr} {ls : List (List UInt8)} (h : Rbs w A ls) (hg : Gr w w') : Rbs w' A ls := by
  cases A with
  | none =>
    refine ⟨h.1, h.2.1, fun hp => ?_⟩
    obtain ⟨ad, e, _⟩ := h.2.2 hp
    cases e
  | some ad =>
    refine Rbs.mkA (Rbs_le h) (fun i hi => ?_)
    obtain ⟨ad2, Ai, ci, e, hc, hl, hr⟩ := h.at_ i hi
    obtain rfl := Option.some.inj e
    exact ⟨Ai, ci, hg.ck _ _ hc, hl, hr.gr hg⟩
theorem Rbs_take {w : World} {A : Option Addr} {ls : List (List UInt8)} (h : Rbs w A ls) (n : Nat) (hn : n ≤ ls.length) : Rbs w A (ls.take n) := by
  have h1 : Kd.C KB w A (ls.map bi).length (ls.map bi) := by rw [List.length_map]; exact h
  have := Kd.C_take h1 (m := n) (by rw [List.length_map]; exact hn)
  rw [← List.map_take, List.length_map] at this
  exact this
theorem Rbs_drop {w : World} {A : Option Addr} {ls : List (List UInt8)} {c : Nat} (h : Rbs w A ls) (n : Nat) (hn : n ≤ ls.length) (hc : ls.length ≤ c) : Rbs w (if c = n then A else A.map (·.add n)) (ls.drop n) := by
  have h1 : Kd.C KB w A (ls.map bi).length (ls.map bi) := by rw [List.length_map]; exact h
  have := Kd.C_drop h1 (m := n) (c := c) (by rw [List.length_map]; exact hn) (by rw [List.length_map]; exact hc)
  rw [← List.map_drop, List.length_map] at this
  simp only [show KB.sz = 1 from rfl, Nat.mul_one] at this
  exact this
/-- A value that reads so. -/
def RdV (w : World) (v : Value) (l : List UInt8) : Prop := ∃ D c, v = .slice D l.length c ∧ l.length ≤ c ∧ Rb w D l
theorem RdV.gr {w w' : World} {v : Value} {l : List UInt8} (h : RdV w v l) (hg : Gr w w') : RdV w' v l := by
  obtain ⟨D, c, h1, h2, h3⟩ := h
  exact ⟨D, c, h1, h2, h3.gr hg⟩
theorem Mine.rdv {w : World} {base : Nat} {v : Value} {l : List UInt8} (h : Mine w base v (bi l)) : RdV w v l := h.reads
/-- A row of one byte, marked or not. -/
def OneV (w0 w : World) (x : UInt8) (v : Value) : Prop := ∃ b, v = .slice (some ⟨b, 0, none⟩) 1 1 ∧ w0.heap.size ≤ b ∧ HB w b #[.int .u8 (x.toNat : Int)] 5
theorem OneV.gr {w0 w w' : World} {x : UInt8} {v : Value} (h : OneV w0 w x v) (hg : Gr w w') : OneV w0 w' x v := by
  obtain ⟨b, h1, h2, h3⟩ := h
  exact ⟨b, h1, h2, hg.st _ _ _ h3⟩
theorem OneV.rdv {w0 w : World} {x : UInt8} {v : Value} (h : OneV w0 w x v) : RdV w v [x] := by
  obtain ⟨b, h1, h2, m, hb⟩ := h
  refine ⟨_, 1, h1, by simp, Rb_of_cells (by simp) (fun j hj => ?_)⟩
  obtain rfl : j = 0 := by simpa using hj
  simp [World.cell?, hb]
/-- A new row of lists. -/
theorem new_rows {w : World} {vs : List Value} {ls : List (List UInt8)} (hn : vs.length = ls.length) (hm : ls.length ≤ 9223372036854775807) (h : ∀ i (hi : i < ls.length), RdV w (vs[i]'(by omega)) ls[i]) : Rbs (w.alloc (.cells vs.toArray 22)) (some ⟨w.heap.size, 0, none⟩) ls := by
  refine Rbs.mk_ hm (fun i hi => ?_)
  obtain ⟨D, c, h1, h2, h3⟩ := h i hi
  refine ⟨D, c, ?_, h2, h3.gr (Gr.alloc _ _)⟩
  rw [World.cell?_alloc_mark]
  simp [List.getElem?_eq_getElem (show i < vs.length by omega), h1]
/-! ### One fact for each operation -/
structure Jg (n : Nat) (slot : Nat → Nat) (F : Nat → Value → World → Prop) (w0 : World) (listed : Array Bool) (vs : Nat → Value) (w : World) : Prop where
  size : listed.size = n
  fr : Fr No w0 w
  all : ∀ i, i < n → listed.getD i false = true → F i (vs (slot i)) w
theorem Jg.start {n : Nat} {slot : Nat → Nat} {F : Nat → Value → World → Prop} (w0 w : World) (vs : Nat → Value) (hf : Fr No w0 w) : Jg n slot F w0 (Array.replicate n false) vs w :=
  ⟨by simp, hf, fun i hi hl => by
    rw [Array.getD_eq_getD_getElem?, Array.getElem?_replicate] at hl
    split at hl <;> cases hl⟩
theorem Jg.step {n : Nat} {slot : Nat → Nat} {F : Nat → Value → World → Prop} {w0 w w' : World} {listed : Array Bool} {vs : Nat → Value} (h : Jg n slot F w0 listed vs w) (i : Nat) (s : Nat) (hs : slot i = s) (v : Value)
    (hst : ∀ j u, F j u w → F j u w') (hf : Fr No w0 w') (hinj : ∀ j, j < n → slot j = s → j = i) (hv : F i v w') : Jg n slot F w0 (listed.setIfInBounds i true) (fun k => if k = s then v else vs k) w' := by
  subst hs
  refine ⟨by simp [h.size], hf, fun j hj hl => ?_⟩
  by_cases e : i = j
  · subst e; rw [if_pos rfl]; exact hv
  · rw [getD_set_ne false e] at hl
    rw [if_neg (fun h2 => e (hinj j hj h2).symm)]
    exact hst _ _ (h.all j hj hl)
abbrev LL2 := List (List UInt8)
abbrev LOwn (w : World) (base : Nat) (v : Value) (ls : LL2) : Prop := Kd.S KB 22 w base (fun b => base ≤ b) v (ls.map bi)
theorem LOwn.nil (w : World) (base : Nat) : LOwn w base (.slice none 0 0) [] := Kd.S_nil _ _ _ _ _
theorem LOwn.fr {w w1 : World} {base : Nat} {v : Value} {ls : LL2} (h : LOwn w base v ls) (hf : Fr No w w1) : LOwn w1 base v ls := Kd.S_below h hf.below
theorem LOwn.lower {w : World} {base b2 : Nat} {v : Value} {ls : LL2} (h : LOwn w base v ls) (hb : b2 ≤ base) : LOwn w b2 v ls := Kd.S_mono (Kd.S_lower h hb) (fun k hk => Nat.le_trans hb hk)
theorem LOwn.reads {w : World} {base : Nat} {v : Value} {ls : LL2} (h : LOwn w base v ls) : ∃ A c, v = .slice A ls.length c ∧ ls.length ≤ c ∧ Rbs w A ls := by
  obtain ⟨A, c, e, hl, hr⟩ := Kd.S_reads h
  rw [List.length_map] at e hl hr
  exact ⟨A, c, e, hl, hr⟩
theorem LOwn.frS {S : Nat → Prop} {w w1 : World} {base : Nat} {v : Value} {ls : LL2} (h : LOwn w base v ls) (hf : Fr S w w1) (hS : ∀ k, S k → ¬ base ≤ k ∨ w.heap.size ≤ k) : LOwn w1 base v ls :=
  Kd.S_step h (fun k hk hlt => hf.block k hlt (fun hs => (hS k hs).elim (fun h => h hk) (fun h => by omega)))
section
variable {P : Program} {ops : Array Oper} {rest : List Oper} {o : Oper} {a : Act} {Q : Exit → Act → World → Prop} {Kc : Act → World → Prop}
theorem mine_M {W : World} {base B2 : Nat} {u : Value} {l : List UInt8} (h : Mine W B2 u (bi l)) (hb : base ≤ B2) : KB.M W base (fun b => B2 ≤ b) (bi l) [u] :=
  ⟨_, rfl, Kd.R_mono (Kd.R_lower (Kd.R_bound h) hb) (fun b hb => hb.2.1)⟩
/-- append(v, u) of a list of lists: v was made ahead of W0, u behind it. -/
theorem app_list {S : Nat → Prop} {w0 W0 W : World} (hgd : o.guard = none) (s x : Operand) (t : TypeId)
    (ho : o.op = .call { callee := .builtin .append, args := #[s, x], argTypes := #[t, t] }) (ht : P.underlying t = some (.slice 22))
    (hinfo : (P.info? 22).map (fun i => (i.zero, i.size, i.bytes)) = some (some (.slice none 0 0), 1, 24))
    (v u : Value) (ls : LL2) (l : List UInt8) (hs : a.eval s = v) (hx : a.eval x = .slice (some ⟨W.heap.size, 0, none⟩) 1 1)
    (HO : LOwn W0 w0.heap.size v ls) (H0 : Fr No W0 W) (HM : Mine W W0.heap.size u (bi l)) (HB : w0.heap.size ≤ W0.heap.size) (HF : Fr S w0 W) (hl : ls.length ≤ 5864062014634)
    (h : ∀ v1 w1, LOwn w1 w0.heap.size v1 (ls ++ [l]) → Fr S w0 w1 → wpList P ops Q rest (a.put o.dst v1) w1) :
    wpList P ops Q (o :: rest) a (W.alloc (.cells #[u] 22)) := by
  have hS : Kd.S KB 22 W w0.heap.size (fun k => w0.heap.size ≤ k ∧ ¬ W0.heap.size ≤ k) v (ls.map bi) :=
    Kd.S_below (Kd.S_mono (Kd.S_bound HO) (fun k hk => ⟨hk.1, by have := hk.2.2.1; omega⟩)) H0.below
  have hob : ∀ k, v.ownBlock = some k → w0.heap.size ≤ k ∧ k < W0.heap.size := fun k hk => ⟨Kd.S_base HO k hk, Kd.S_lt HO k hk⟩
  refine Kd.S_append KB (w0 := W) w0.heap.size hgd s x t 22 (.slice none 0 0) 24 ho ht hinfo rfl (Nat.succ_pos 0) (by decide) v (ls.map bi) (bi l) [u] (fun k => w0.heap.size ≤ k) (fun k => W0.heap.size ≤ k) hs hx (mine_M HM HB) (fun k hk => ⟨by omega, fun e => by have := (hob k e.symm).2; omega⟩) (fun k hk => by have := HF.size; omega) hS (Below.refl _ _) HF.size (by rw [List.length_map]; omega) ?_
  intro v1 w1 h1 _ h3 _
  refine h v1 w1 (by unfold LOwn; rw [List.map_append]; exact h1) (HF.grown h3 (fun k hk => .inr (hob k hk).1))
theorem app_list_step {S : Nat → Prop} {w0 W0 W : World} (hw : Region.wanted o (yielded ops a.tmps) = true) (s x : Operand) (t : TypeId)
    (ho : o.op = .call { callee := .builtin .append, args := #[s, x], argTypes := #[t, t] }) (ht : P.underlying t = some (.slice 22))
    (hinfo : (P.info? 22).map (fun i => (i.zero, i.size, i.bytes)) = some (some (.slice none 0 0), 1, 24))
    (v u : Value) (ls : LL2) (l : List UInt8) (hs : a.eval s = v) (hx : a.eval x = .slice (some ⟨W.heap.size, 0, none⟩) 1 1)
    (HO : LOwn W0 w0.heap.size v ls) (H0 : Fr No W0 W) (HM : Mine W W0.heap.size u (bi l)) (HB : w0.heap.size ≤ W0.heap.size) (HF : Fr S w0 W) (hl : ls.length ≤ 5864062014634)
    (h : ∀ v1 w1, LOwn w1 w0.heap.size v1 (ls ++ [l]) → Fr S w0 w1 → Kc (a.put o.dst v1) w1) :
    if Region.wanted o (yielded ops a.tmps) = true then Oper.wp P o a (W.alloc (.cells #[u] 22)) Kc Q else Kc (a.put o.dst undef) (W.alloc (.cells #[u] 22)) := by
  have hS : Kd.S KB 22 W w0.heap.size (fun k => w0.heap.size ≤ k ∧ ¬ W0.heap.size ≤ k) v (ls.map bi) :=
    Kd.S_below (Kd.S_mono (Kd.S_bound HO) (fun k hk => ⟨hk.1, by have := hk.2.2.1; omega⟩)) H0.below
  have hob : ∀ k, v.ownBlock = some k → w0.heap.size ≤ k ∧ k < W0.heap.size := fun k hk => ⟨Kd.S_base HO k hk, Kd.S_lt HO k hk⟩
  refine Kd.S_append_step KB (w0 := W) w0.heap.size hw s x t 22 (.slice none 0 0) 24 ho ht hinfo rfl (Nat.succ_pos 0) (by decide) v (ls.map bi) (bi l) [u] (fun k => w0.heap.size ≤ k) (fun k => W0.heap.size ≤ k) hs hx (mine_M HM HB) (fun k hk => ⟨by omega, fun e => by have := (hob k e.symm).2; omega⟩) (fun k hk => by have := HF.size; omega) hS (Below.refl _ _) HF.size (by rw [List.length_map]; omega) ?_
  intro v1 w1 h1 _ h3 _
  refine h v1 w1 (by unfold LOwn; rw [List.map_append]; exact h1) (HF.grown h3 (fun k hk => .inr (hob k hk).1))
open Classical in
/-- append(v, row) where the row, anywhere, holds one list u; v's blocks are none of Pk, u's are. -/
theorem app_list_wp {K : Act → World → Prop} {S : Nat → Prop} {w0 W : World} (hgd : o.guard = none) (s x : Operand) (t : TypeId)
    (ho : o.op = .call { callee := .builtin .append, args := #[s, x], argTypes := #[t, t] }) (ht : P.underlying t = some (.slice 22))
    (hinfo : (P.info? 22).map (fun i => (i.zero, i.size, i.bytes)) = some (some (.slice none 0 0), 1, 24))
    (v u : Value) (ls : LL2) (l : List UInt8) (ad : Addr) (c : Nat) (hs : a.eval s = v) (hx : a.eval x = .slice (some ad) 1 c) (hcell : W.cell? ad = some u) (Pk : Nat → Prop)
    (HO : Kd.S KB 22 W w0.heap.size (fun k => w0.heap.size ≤ k ∧ ¬ Pk k) v (ls.map bi)) (HM : Kd.R (Kd.int .u8) 5 W w0.heap.size (fun k => w0.heap.size ≤ k ∧ Pk k) u (bi l)) (HF : Fr S w0 W) (hl : ls.length ≤ 5864062014634)
    (h : ∀ v1 w1, LOwn w1 w0.heap.size v1 (ls ++ [l]) → Fr S w0 w1 → K (a.put o.dst v1) w1) : o.wp P a W K Q := by
  obtain ⟨f, hf, hR⟩ := Kd.S_tag HO ls.length (fun k => w0.heap.size ≤ k ∧ Pk k) (fun k hk h2 => h2.2 hk.2)
  have hw : Region.wanted o (yielded #[] a.tmps) = true := by simp [Region.wanted, hgd]
  have hob : ∀ k, v.ownBlock = some k → w0.heap.size ≤ k ∧ ¬ Pk k := fun k hk => (Kd.S_R HO).1 k hk
  have hrow : ReadsRow (fun (p : List Int × Nat) cs => p = (bi l, ls.length) ∧ cs = [u]) (Kd.tag f KB).sz W (some ad) 1 [(bi l, ls.length)] := by
    refine ⟨rfl, by decide, fun _ => ⟨ad, rfl, fun j p hj => ?_⟩⟩
    have hj0 : j = 0 := by
      have := (List.getElem?_eq_some_iff.1 hj).1
      simpa using this
    subst hj0
    refine ⟨[u], rfl, ⟨by simpa using hj.symm, rfl⟩, fun i x hi => ?_⟩
    cases i with
    | zero =>
      obtain rfl : u = x := by simpa using hi
      have : ad.add (0 * (Kd.tag f KB).sz + 0) = ad := by simp [Addr.add]
      rw [this]; exact hcell
    | succ i => simp at hi
  have hn : (ls.map bi).zipIdx.length = ls.length := by simp
  have := Kd.R_append_rows_step (Kd.tag f KB) (ops := #[]) (P := P) (Q := Q) (Kc := K) (a := a) (o := o) (w0 := W) (W := W) w0.heap.size hw s x t 22 (.slice none 0 0) 24 ho ht hinfo rfl (Nat.succ_pos 0) (by decide) v (ls.map bi).zipIdx [(bi l, ls.length)] (some ad) 1 c (fun k => w0.heap.size ≤ k) (fun k => w0.heap.size ≤ k ∧ Pk k) hs hx
    (Kd.R_mono hR (fun _ hk => hk.1)) hrow (by rintro p cs ⟨rfl, rfl⟩; exact ⟨_, rfl, Kd.R_mono HM (fun k hk => ⟨hk, hf k hk⟩)⟩) (fun k hk => ⟨hk.1, fun e => (hob k e.symm).2 hk.2⟩) (fun k hk => by have := HF.size; omega) (Below.refl _ _) HF.size (by rw [hn]; omega) ?_
  · rwa [if_pos hw] at this
  intro v1 w1 h1 _ h3 _
  refine h v1 w1 ⟨f, ?_⟩ (HF.grown h3 (fun k hk => .inr (hob k hk).1))
  have hz := Kd.zip_snoc (ls.map bi) (bi l)
  rw [List.length_map] at hz
  rw [List.map_append]
  exact hz ▸ h1
end
/-- A row of one byte of the call's own. -/
theorem mine_one (w : World) (n : Int) : Mine (w.alloc (.cells #[.int .u8 n] 5)) w.heap.size (.slice (some ⟨w.heap.size, 0, none⟩) 1 1) [n] :=
  Kd.R_of_own (enc := Value.int .u8) (by simpa [encs] using World.ownsRow_lit (base := w.heap.size) (e := 5) (size := 1) w #[.int .u8 n] 1 (Nat.le_refl _) (by simp [maxLen]) rfl) (fun _ _ => trivial)
structure Jk (ops : Array Oper) (slot : Nat → Nat) (m : Nat) (F : Nat → Value → World → Prop) (E : Array Bool → (Nat → Value) → World → Prop) (w0 : World) (listed : Array Bool) (vs : Nat → Value) (w : World) : Prop where
  size : listed.size = ops.size
  fr : Fr No w0 w
  dep : ∀ i o, ops[i]? = some o → listed.getD i false = true → ∀ e ∈ o.after, Region.binds .any e = true → listed.getD e.on false = true
  all : ∀ i, i < ops.size → listed.getD i false = true → (i < m → listed.getD m false = false) → F i (vs (slot i)) w
  ext : E listed vs w
/-- All that stands ahead of operation j is behind some edge to it. -/
def ancOk (ops : Array Oper) (j : Nat) : Bool := (List.range j).all fun i => (List.range (j + 1)).any fun t => decide (i < t) && (match ops[t]? with | some o => o.after.toList.any fun e => decide (e.on = i) && Region.binds .any e | none => false)
section
variable {ops : Array Oper} {slot : Nat → Nat} {m : Nat} {F : Nat → Value → World → Prop} {E : Array Bool → (Nat → Value) → World → Prop} {w0 w w' : World} {listed : Array Bool} {vs : Nat → Value}
theorem Jk.anc {j : Nat} (hc : ancOk ops j = true) (h : Jk ops slot m F E w0 listed vs w) (hj : listed.getD j false = true) : ∀ i, i < j → listed.getD i false = true := by
  have key : ∀ d i, i + d = j → listed.getD i false = true := by
    intro d
    induction d using Nat.strongRecOn with
    | _ d ih =>
      intro i hi
      by_cases h0 : d = 0
      · obtain rfl : i = j := by omega
        exact hj
      have h1 := List.all_eq_true.1 hc i (List.mem_range.2 (by omega))
      obtain ⟨t, ht, h2⟩ := List.any_eq_true.1 h1
      have ht2 := List.mem_range.1 ht
      rw [Bool.and_eq_true, decide_eq_true_eq] at h2
      obtain ⟨hit, h3⟩ := h2
      cases hot : ops[t]? with
      | none => rw [hot] at h3; cases h3
      | some o =>
        rw [hot] at h3
        obtain ⟨e, he, h4⟩ := List.any_eq_true.1 h3
        rw [Bool.and_eq_true, decide_eq_true_eq] at h4
        have := h.dep t o hot (ih (j - t) (by omega) t (by omega)) e (Array.mem_toList_iff.1 he) h4.2
        rw [h4.1] at this
        exact this
  exact fun i hi => key (j - i) i (by omega)
/-- What stands ahead of an operation that is ready. -/
def ancOk' (ops : Array Oper) (j : Nat) (o : Oper) : Bool := (List.range j).all fun i => (o.after.toList.any fun e => decide (e.on = i) && Region.binds .any e) || ((List.range j).any fun t => decide (i < t) && (match ops[t]? with | some o => o.after.toList.any fun e => decide (e.on = i) && Region.binds .any e | none => false))
theorem Jk.anc' {j : Nat} {o : Oper} (hc : ancOk' ops j o = true) (h : Jk ops slot m F E w0 listed vs w) (hb : ∀ e ∈ o.after, Region.binds .any e = true → listed.getD e.on false = true) : ∀ i, i < j → listed.getD i false = true := by
  have key : ∀ d i, i + d + 1 = j → listed.getD i false = true := by
    intro d
    induction d using Nat.strongRecOn with
    | _ d ih =>
      intro i hi
      have h1 := List.all_eq_true.1 hc i (List.mem_range.2 (by omega))
      rw [Bool.or_eq_true] at h1
      rcases h1 with h1 | h1
      · obtain ⟨e, he, h4⟩ := List.any_eq_true.1 h1
        rw [Bool.and_eq_true, decide_eq_true_eq] at h4
        have := hb e (Array.mem_toList_iff.1 he) h4.2
        rw [h4.1] at this
        exact this
      · obtain ⟨t, ht, h2⟩ := List.any_eq_true.1 h1
        have ht2 := List.mem_range.1 ht
        rw [Bool.and_eq_true, decide_eq_true_eq] at h2
        obtain ⟨hit, h3⟩ := h2
        cases hot : ops[t]? with
        | none => rw [hot] at h3; cases h3
        | some o =>
          rw [hot] at h3
          obtain ⟨e, he, h4⟩ := List.any_eq_true.1 h3
          rw [Bool.and_eq_true, decide_eq_true_eq] at h4
          have := h.dep t o hot (ih (j - t - 1) (by omega) t (by omega)) e (Array.mem_toList_iff.1 he) h4.2
          rw [h4.1] at this
          exact this
  exact fun i hi => key (j - i - 1) i (by omega)
/-- All behind operation i leans on it outright. -/
def postOk (ops : Array Oper) (i : Nat) : Bool := (List.range ops.size).all fun j => decide (j ≤ i) || (match ops[j]? with | some o => o.after.toList.any fun e => decide (e.on = i) && Region.binds .any e | none => false)
theorem Jk.anc2 {i : Nat} (hc : postOk ops i = true) (h : Jk ops slot m F E w0 listed vs w) : ∀ j, i < j → listed.getD j false = true → listed.getD i false = true := fun j hij hl => by
  have hj : j < ops.size := by
    rcases Nat.lt_or_ge j ops.size with h' | h'
    · exact h'
    · have := h.size
      simp [Array.getElem?_eq_none (show listed.size ≤ j by omega)] at hl
  have h1 := List.all_eq_true.1 hc j (List.mem_range.2 hj)
  rw [Bool.or_eq_true, decide_eq_true_eq] at h1
  rcases h1 with h1 | h3
  · omega
  · cases hot : ops[j]? with
    | none => rw [hot] at h3; cases h3
    | some o =>
      rw [hot] at h3
      obtain ⟨e, he, h4⟩ := List.any_eq_true.1 h3
      rw [Bool.and_eq_true, decide_eq_true_eq] at h4
      have := h.dep j o hot hl e (Array.mem_toList_iff.1 he) h4.2
      rw [h4.1] at this
      exact this
theorem Jk.start (w0 w : World) (vs : Nat → Value) (hf : Fr No w0 w) (hE : E (Array.replicate ops.size false) vs w) : Jk ops slot m F E w0 (Array.replicate ops.size false) vs w :=
  have hn : ∀ i, (Array.replicate ops.size false).getD i false = true → False := fun i hl => by
    rw [Array.getD_eq_getD_getElem?, Array.getElem?_replicate] at hl
    split at hl <;> cases hl
  ⟨by simp, hf, fun i o _ hl => (hn i hl).elim, fun i hi hl => (hn i hl).elim, hE⟩
theorem Jk.step (h : Jk ops slot m F E w0 listed vs w) (i s : Nat) {o : Oper} (ho : ops[i]? = some o) (hs : slot i = s) (v : Value) (hb : ∀ e ∈ o.after, Region.binds .any e = true → listed.getD e.on false = true)
    (hst : ∀ j u, (i = m → m < j) → listed.getD j false = true → F j u w → F j u w') (hf : Fr No w0 w') (hinj : ∀ j, j < ops.size → slot j = s → j = i) (hv : F i v w') (hE : E (listed.setIfInBounds i true) (fun k => if k = s then v else vs k) w') :
    Jk ops slot m F E w0 (listed.setIfInBounds i true) (fun k => if k = s then v else vs k) w' := by
  subst hs
  have hi : i < ops.size := (Array.getElem?_eq_some_iff.1 ho).1
  have hself : (listed.setIfInBounds i true).getD i false = true := by simp [h.size, hi]
  refine ⟨by simp [h.size], hf, fun j oj hoj hl e he hbe => ?_, fun j hj hl hm => ?_, hE⟩
  · have hprev : listed.getD e.on false = true := by
      by_cases e1 : i = j
      · subst e1
        obtain rfl := Option.some.inj (ho.symm.trans hoj)
        exact hb e he hbe
      · rw [getD_set_ne false e1] at hl
        exact h.dep j oj hoj hl e he hbe
    by_cases e2 : i = e.on
    · rw [← e2]; exact hself
    · rw [getD_set_ne false e2]; exact hprev
  · by_cases e : i = j
    · subst e; rw [if_pos rfl]; exact hv
    · rw [getD_set_ne false e] at hl
      rw [if_neg (fun h2 => e (hinj j hj h2).symm)]
      by_cases em : i = m
      · subst em
        by_cases hjm : j < i
        · have := hm hjm
          rw [hself] at this
          cases this
        · exact hst _ _ (fun _ => by omega) hl (h.all j hj hl (fun h2 => absurd h2 hjm))
      · exact hst _ _ (fun h2 => absurd h2 em) hl (h.all j hj hl (fun h2 => by have := hm h2; rwa [getD_set_ne false em] at this))
end
theorem wpOp_val {P : Program} {ops : Array Oper} {Q : Exit → Act → World → Prop} {K : Act → World → Prop} {a : Act} {w w' : World} {i : Nat} {o : Oper} {v : Value} (hi : ops[i]? = some o) (hg : o.guard = none) (hr : (execOp a.eval o).run P w = .ok (.value v) w') (h : K (a.put o.dst v) w') : wpOp P ops Q i K a w :=
  wpOp_of hi hg (by unfold Oper.wp; rw [hr]; exact h)
theorem getD_false {l : Array Bool} {i : Nat} (h : l.getD i true = false) : l.getD i false = false := by
  by_cases hi : i < l.size
  · simpa [hi] using h
  · simp [hi] at h
theorem region_jk {P : Program} {id : Nat} {a : Act} {w : World} {ops : Array Oper} {Q : Exit → Act → World → Prop} (hm : P.follows .mixedOrders = true) (slot : Nat → Nat) (m : Nat) (F : Nat → Value → World → Prop) (E : Array Bool → (Nat → Value) → World → Prop) (A : (Nat → Value) → Act) (vs0 : Nat → Value) (ha : a = A vs0) (hE : E (Array.replicate ops.size false) vs0 w.drew)
    (hac : (List.range ops.size).all (fun i => (ops[i]?).all fun o => o.after.all fun e => decide (e.on < i)) = true)
    (hs : ∀ listed vs W i o, Jk ops slot m F E w listed vs W → ops[i]? = some o → listed.getD i false = false → (∀ e ∈ o.after, Region.binds .any e = true → listed.getD e.on false = true) →
      ∀ K : Act → World → Prop, (∀ vs' w', Jk ops slot m F E w (listed.setIfInBounds i true) vs' w' → K (A vs') w') → wpOp P ops Q i K (A vs) W)
    (hq : ∀ vs W, Fr No w W → (∀ i, i < ops.size → m ≤ i → F i (vs (slot i)) W) → Q .normal (A vs) W) :
    (Code.region id ops true).wp P Q a w := by
  refine wp_region_any hm (wpAny_inv (fun listed a W => ∃ vs, a = A vs ∧ Jk ops slot m F E w listed vs W) ?_ ?_ _ _ _ _ ?_ ?_)
  · rintro listed a W ⟨vs, rfl, hj⟩ hr
    have hall := ready_all hac hj.size hr
    exact hq vs W hj.fr (fun i hi hmi => hj.all i hi (hall i hi) (fun h => by omega))
  · rintro listed a W i o ⟨vs, rfl, hj⟩ ho hu hb
    exact hs listed vs W i o hj ho (getD_false hu) hb _ (fun vs' w' h => ⟨vs', rfl, h⟩)
  · unfold leftOf
    refine Nat.le_trans (List.length_filter_le _ _) (by simp)
  · exact ⟨vs0, ha, Jk.start _ _ _ (Fr.refl No w).drew hE⟩
end Go.Proofs.YtbaeddppihjgfaaDoor.Sg
