/- A region that draws its order, walked by facts that stay true: one fact for each operation. No program but its types. -/
import Derived.Test.YtbaeddppihjgfaaDoorOrdersInv
import Derived.Test.YtbaeddppihjgfaaDoorRooms
import Derived.Test.YtbaeddppihjgfaaDoorOpenRows
namespace Go.Proofs.YtbaeddppihjgfaaDoor.Sg
open Go Go.RowKit Go.Proofs.YtbaeddppihjgfaaDoorW.PrintWords
set_option linter.unusedVariables false
theorem ready_all {md : Region.Mode} {ops : Array Oper} {listed : Array Bool} (hd' : (List.range ops.size).all (fun i => (ops[i]?).all fun o => o.after.all fun e => decide (e.on < i)) = true) (hs : listed.size = ops.size) (h : Region.ready md ops listed = []) :
    ∀ i, i < ops.size → listed.getD i false = true := by
  have hd : ∀ (i : Nat) (o : Oper), ops[i]? = some o → ∀ e ∈ o.after, e.on < i := fun i o ho e he => by
    have h1 := List.all_eq_true.1 hd' i (List.mem_range.2 (Array.getElem?_eq_some_iff.1 ho).1)
    rw [ho] at h1
    have h2 := Array.all_eq_true_iff_forall_mem.1 h1 e he
    simpa using h2
  intro i
  induction i using Nat.strongRecOn with
  | _ i ih =>
    intro hi
    have e2 : ∀ b, listed.getD i b = listed[i]'(by omega) := fun b => by simp [show i < listed.size by omega]
    cases hc : listed[i]'(by omega) with
    | true => rw [e2, hc]
    | false =>
      have : i ∈ Region.ready md ops listed := mem_ready.2 ⟨by rw [e2, hc], ops[i], by simp [hi], fun e he _ => ih e.on (hd i _ (by simp [hi]) e he) (by have := hd i _ (by simp [hi]) e he; omega)⟩
      rw [h] at this
      cases this
theorem wpOp_of {P : Program} {ops : Array Oper} {Q : Exit → Act → World → Prop} {K : Act → World → Prop} {a : Act} {w : World} {i : Nat} {o : Oper} (hi : ops[i]? = some o) (hg : o.guard = none) (h : o.wp P a w K Q) : wpOp P ops Q i K a w := by
  unfold wpOp
  simp only [hi]
  rw [if_pos (by simp [Region.wanted, hg])]
  exact .inl h
/-- Block b holds these cells, marked or not. -/
def HB (w : World) (b : Nat) (C : Array Value) (t : TypeId) : Prop := ∃ m, w.heap[b]? = some (.cells C t m)
/-- The rows stay, but for marks. -/
def St (w w' : World) : Prop := ∀ b C t, HB w b C t → HB w' b C t
theorem St.alloc (w : World) (o : Obj) : St w (w.alloc o) := fun b C t ⟨m, h⟩ => ⟨m, (Below.heap_alloc _ _ _ (Array.getElem?_eq_some_iff.1 h).1).trans h⟩
theorem St.freeze (w : World) (a : Addr) (n : Nat) : St w (w.freeze a n) := fun b C t ⟨m, h⟩ => by
  unfold World.freeze
  split
  · exact ⟨m, h⟩
  · unfold HB
    simp only [Array.getElem?_modify]
    split
    · next e => subst e; rw [h]; exact ⟨_, rfl⟩
    · exact ⟨m, h⟩
theorem Fr.freeze {S : Nat → Prop} {w w1 : World} (h : Fr S w w1) {a : Addr} (n : Nat) (hp : S a.block ∨ w.heap.size ≤ a.block) : Fr S w (w1.freeze a n) := by
  refine h.trans (S2 := fun k => k = a.block) ?_ (fun k hk => by rw [hk]; exact hp)
  unfold World.freeze
  split
  · exact Fr.refl _ _
  · exact ⟨rfl, rfl, rfl, by simp, fun k hk hn => by simp only [Array.getElem?_modify]; rw [if_neg (fun e => hn e.symm)]⟩
theorem run_convert_marked {P : Program} (w : World) (t e : TypeId) (C : Array Value) (b n c : Nat) (ht : P.underlying t = some (.slice e)) (he : P.underlying e = some (.int .u8)) (h : HB w b C e) :
    (convert t t (.slice (some ⟨b, 0, none⟩) n c)).run P w = .ok (.slice (some ⟨b, 0, none⟩) n c) (w.freeze ⟨b, C.size, none⟩ 1) := by
  obtain ⟨m, hb⟩ := h
  have hsh : w.shape? b = some (e, C.size) := by unfold World.shape?; rw [hb]
  simp [convert, run_underlying ht, run_underlying he, markStringish, hsh]
theorem heap_new_HB (w : World) (C : Array Value) (t : TypeId) : HB (w.alloc (.cells C t)) w.heap.size C t := ⟨_, heap_alloc_new w _⟩
/-- What is there stays as it reads. -/
structure Gr (w w' : World) : Prop where
  st : St w w'
  ck : ∀ a v, w.cell? a = some v → w'.cell? a = some v
  size : w.heap.size ≤ w'.heap.size
theorem Gr.refl (w : World) : Gr w w := ⟨fun _ _ _ h => h, fun _ _ h => h, Nat.le_refl _⟩
theorem Gr.of_fr {w w' : World} (h : Fr No w w') : Gr w w' := ⟨fun b C t ⟨m, hb⟩ => ⟨m, h.heap hb id⟩, fun a v hc => h.cell hc id, h.size⟩
theorem Gr.alloc (w : World) (o : Obj) : Gr w (w.alloc o) := .of_fr ((Fr.refl No w).alloc o)
theorem Gr.drew (w : World) : Gr w w.drew := .of_fr (Fr.refl No w).drew
theorem Gr.freeze (w : World) (a : Addr) (n : Nat) : Gr w (w.freeze a n) := by
  by_cases h0 : n = 0
  · unfold World.freeze; rw [if_pos h0]; exact .refl w
  · refine ⟨St.freeze w a n, fun p v hc => ?_, ?_⟩
    · unfold World.freeze
      rw [if_neg h0]
      unfold World.cell? at hc ⊢
      simp only [Array.getElem?_modify]
      by_cases e : a.block = p.block
      · rw [if_pos e]
        cases hb : w.heap[p.block]? with
        | none => rw [hb] at hc; cases hc
        | some o =>
          rw [hb] at hc
          cases o <;> first | exact hc | cases hc
      · rw [if_neg e]; exact hc
    · unfold World.freeze
      rw [if_neg h0]
      simp
theorem Rb.gr {w w' : World} {A : Option Addr} {l : List UInt8} (h : Rb w A l) (hg : Gr w w') : Rb w' A l := by
  refine Kd.C_of_reads (enc := Value.int .u8) (d := (0 : Int)) (h1 := fun _ => rfl) ⟨bi_length l, Rb_le h, fun hp => ?_⟩
  have h' : Kd.C (Kd.int .u8) w A (bi l).length (bi l) := by rw [bi_length]; exact h
  obtain ⟨ad, e, hc⟩ := C_cells h' (by rw [bi_length]; omega)
  refine ⟨ad, e, fun j hj => hg.ck _ _ (hc j _ ?_)⟩
  have hj2 : j < (bi l).length := by rw [bi_length]; omega
  simp [nums, List.getD_eq_getElem?_getD, List.getElem?_eq_getElem hj2]
theorem Rbs_le {w : World} {A : Option Addr} {ls : List (List UInt8)} (h : Rbs w A ls) : ls.length ≤ 9223372036854775807 := h.2.1
theorem Rbs.gr {w w' : World} {A : Option Addr} {ls : List (List UInt8)} (h : Rbs w A ls) (hg : Gr w w') : Rbs w' A ls := by
  cases A with
  | none =>
    refine ⟨h.1, h.2.1, fun hp => ?_⟩
    obtain ⟨ad, e, _⟩ := h.2.2 hp
    cases e
  | some ad =>
    refine Rbs.mkA (Rbs_le h) (fun i hi => ?_)
    obtain ⟨ad2, Ai, ci, e, hc, hl, hr⟩ := h.at_ i hi
    obtain rfl := Option.some.inj e
    exact ⟨Ai, ci, hg.ck _ _ hc, hl, hr.gr hg⟩
theorem Rbs_take {w : World} {A : Option Addr} {ls : List (List UInt8)} (h : Rbs w A ls) (n : Nat) (hn : n ≤ ls.length) : Rbs w A (ls.take n) := by
  have h1 : Kd.C KB w A (ls.map bi).length (ls.map bi) := by rw [List.length_map]; exact h
  have := Kd.C_take h1 (m := n) (by rw [List.length_map]; exact hn)
  rw [← List.map_take, List.length_map] at this
  exact this
theorem Rbs_drop {w : World} {A : Option Addr} {ls : List (List UInt8)} {c : Nat} (h : Rbs w A ls) (n : Nat) (hn : n ≤ ls.length) (hc : ls.length ≤ c) : Rbs w (if c = n then A else A.map (·.add n)) (ls.drop n) := by
  have h1 : Kd.C KB w A (ls.map bi).length (ls.map bi) := by rw [List.length_map]; exact h
  have := Kd.C_drop h1 (m := n) (c := c) (by rw [List.length_map]; exact hn) (by rw [List.length_map]; exact hc)
  rw [← List.map_drop, List.length_map] at this
  simp only [show KB.sz = 1 from rfl, Nat.mul_one] at this
  exact this
/-- A value that reads so. -/
def RdV (w : World) (v : Value) (l : List UInt8) : Prop := ∃ D c, v = .slice D l.length c ∧ l.length ≤ c ∧ Rb w D l
theorem RdV.gr {w w' : World} {v : Value} {l : List UInt8} (h : RdV w v l) (hg : Gr w w') : RdV w' v l := by
  obtain ⟨D, c, h1, h2, h3⟩ := h
  exact ⟨D, c, h1, h2, h3.gr hg⟩
theorem Mine.rdv {w : World} {base : Nat} {v : Value} {l : List UInt8} (h : Mine w base v (bi l)) : RdV w v l := h.reads
/-- A row of one byte, marked or not. -/
def OneV (w0 w : World) (x : UInt8) (v : Value) : Prop := ∃ b, v = .slice (some ⟨b, 0, none⟩) 1 1 ∧ w0.heap.size ≤ b ∧ HB w b #[.int .u8 (x.toNat : Int)] 5
theorem OneV.gr {w0 w w' : World} {x : UInt8} {v : Value} (h : OneV w0 w x v) (hg : Gr w w') : OneV w0 w' x v := by
  obtain ⟨b, h1, h2, h3⟩ := h
  exact ⟨b, h1, h2, hg.st _ _ _ h3⟩
theorem OneV.rdv {w0 w : World} {x : UInt8} {v : Value} (h : OneV w0 w x v) : RdV w v [x] := by
  obtain ⟨b, h1, h2, m, hb⟩ := h
  refine ⟨_, 1, h1, by simp, Rb_of_cells (by simp) (fun j hj => ?_)⟩
  obtain rfl : j = 0 := by simpa using hj
  simp [World.cell?, hb]
/-- A new row of lists. -/
theorem new_rows {w : World} {vs : List Value} {ls : List (List UInt8)} (hn : vs.length = ls.length) (hm : ls.length ≤ 9223372036854775807) (h : ∀ i (hi : i < ls.length), RdV w (vs[i]'(by omega)) ls[i]) : Rbs (w.alloc (.cells vs.toArray 22)) (some ⟨w.heap.size, 0, none⟩) ls := by
  refine Rbs.mk_ hm (fun i hi => ?_)
  obtain ⟨D, c, h1, h2, h3⟩ := h i hi
  refine ⟨D, c, ?_, h2, h3.gr (Gr.alloc _ _)⟩
  rw [World.cell?_alloc_mark]
  simp [List.getElem?_eq_getElem (show i < vs.length by omega), h1]
/-! ### One fact for each operation -/
structure Jg (n : Nat) (slot : Nat → Nat) (F : Nat → Value → World → Prop) (w0 : World) (listed : Array Bool) (vs : Nat → Value) (w : World) : Prop where
  size : listed.size = n
  fr : Fr No w0 w
  all : ∀ i, i < n → listed.getD i false = true → F i (vs (slot i)) w
theorem Jg.start {n : Nat} {slot : Nat → Nat} {F : Nat → Value → World → Prop} (w0 w : World) (vs : Nat → Value) (hf : Fr No w0 w) : Jg n slot F w0 (Array.replicate n false) vs w :=
  ⟨by simp, hf, fun i hi hl => by
    rw [Array.getD_eq_getD_getElem?, Array.getElem?_replicate] at hl
    split at hl <;> cases hl⟩
theorem Jg.step {n : Nat} {slot : Nat → Nat} {F : Nat → Value → World → Prop} {w0 w w' : World} {listed : Array Bool} {vs : Nat → Value} (h : Jg n slot F w0 listed vs w) (i : Nat) (s : Nat) (hs : slot i = s) (v : Value)
    (hst : ∀ j u, F j u w → F j u w') (hf : Fr No w0 w') (hinj : ∀ j, j < n → slot j = s → j = i) (hv : F i v w') : Jg n slot F w0 (listed.setIfInBounds i true) (fun k => if k = s then v else vs k) w' := by
  subst hs
  refine ⟨by simp [h.size], hf, fun j hj hl => ?_⟩
  by_cases e : i = j
  · subst e; rw [if_pos rfl]; exact hv
  · rw [getD_set_ne false e] at hl
    rw [if_neg (fun h2 => e (hinj j hj h2).symm)]
    exact hst _ _ (h.all j hj hl)
end Go.Proofs.YtbaeddppihjgfaaDoor.Sg
