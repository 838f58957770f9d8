/- The law DigestKnown's literals: what the memory holds while they are made in whatever order. -/
import Derived.Test.YtbaeddppihjgfaaDoorKnownCalc
import Derived.Test.YtbaeddppihjgfaaDoorOrdersInv
import Derived.Test.YtbaeddppihjgfaaDoorHead
import Derived.Test.YtbaeddppihjgfaaDoorCrcNine
import Derived.Test.YtbaeddppihjgfaaDoorRooms
namespace Go.Proofs.YtbaeddppihjgfaaDoor.Sg
open Go Go.RowKit Go.Proofs.YtbaeddppihjgfaaDoorW.PrintWords
set_option linter.unusedVariables false
theorem ready_all {md : Region.Mode} {ops : Array Oper} {listed : Array Bool} (hd' : (List.range ops.size).all (fun i => (ops[i]?).all fun o => o.after.all fun e => decide (e.on < i)) = true) (hs : listed.size = ops.size) (h : Region.ready md ops listed = []) :
    ∀ i, i < ops.size → listed.getD i false = true := by
  have hd : ∀ (i : Nat) (o : Oper), ops[i]? = some o → ∀ e ∈ o.after, e.on < i := fun i o ho e he => by
    have h1 := List.all_eq_true.1 hd' i (List.mem_range.2 (Array.getElem?_eq_some_iff.1 ho).1)
    rw [ho] at h1
    have h2 := Array.all_eq_true_iff_forall_mem.1 h1 e he
    simpa using h2
  intro i
  induction i using Nat.strongRecOn with
  | _ i ih =>
    intro hi
    have e2 : ∀ b, listed.getD i b = listed[i]'(by omega) := fun b => by simp [show i < listed.size by omega]
    cases hc : listed[i]'(by omega) with
    | true => rw [e2, hc]
    | false =>
      have : i ∈ Region.ready md ops listed := mem_ready.2 ⟨by rw [e2, hc], ops[i], by simp [hi], fun e he _ => ih e.on (hd i _ (by simp [hi]) e he) (by have := hd i _ (by simp [hi]) e he; omega)⟩
      rw [h] at this
      cases this
theorem wpOp_of {P : Program} {ops : Array Oper} {Q : Exit → Act → World → Prop} {K : Act → World → Prop} {a : Act} {w : World} {i : Nat} {o : Oper} (hi : ops[i]? = some o) (hg : o.guard = none) (h : o.wp P a w K Q) : wpOp P ops Q i K a w := by
  unfold wpOp
  simp only [hi]
  rw [if_pos (by simp [Region.wanted, hg])]
  exact .inl h
/-- Block b holds these cells, marked or not. -/
def HB (w : World) (b : Nat) (C : Array Value) (t : TypeId) : Prop := ∃ m, w.heap[b]? = some (.cells C t m)
/-- The rows stay, but for marks. -/
def St (w w' : World) : Prop := ∀ b C t, HB w b C t → HB w' b C t
theorem St.alloc (w : World) (o : Obj) : St w (w.alloc o) := fun b C t ⟨m, h⟩ => ⟨m, (Below.heap_alloc _ _ _ (Array.getElem?_eq_some_iff.1 h).1).trans h⟩
theorem St.freeze (w : World) (a : Addr) (n : Nat) : St w (w.freeze a n) := fun b C t ⟨m, h⟩ => by
  unfold World.freeze
  split
  · exact ⟨m, h⟩
  · unfold HB
    simp only [Array.getElem?_modify]
    split
    · next e => subst e; rw [h]; exact ⟨_, rfl⟩
    · exact ⟨m, h⟩
theorem Fr.freeze {S : Nat → Prop} {w w1 : World} (h : Fr S w w1) {a : Addr} (n : Nat) (hp : S a.block ∨ w.heap.size ≤ a.block) : Fr S w (w1.freeze a n) := by
  refine h.trans (S2 := fun k => k = a.block) ?_ (fun k hk => by rw [hk]; exact hp)
  unfold World.freeze
  split
  · exact Fr.refl _ _
  · exact ⟨rfl, rfl, rfl, by simp, fun k hk hn => by simp only [Array.getElem?_modify]; rw [if_neg (fun e => hn e.symm)]⟩
theorem run_convert_marked {P : Program} (w : World) (t e : TypeId) (C : Array Value) (b n c : Nat) (ht : P.underlying t = some (.slice e)) (he : P.underlying e = some (.int .u8)) (h : HB w b C e) :
    (convert t t (.slice (some ⟨b, 0, none⟩) n c)).run P w = .ok (.slice (some ⟨b, 0, none⟩) n c) (w.freeze ⟨b, C.size, none⟩ 1) := by
  obtain ⟨m, hb⟩ := h
  have hsh : w.shape? b = some (e, C.size) := by unfold World.shape?; rw [hb]
  simp [convert, run_underlying ht, run_underlying he, markStringish, hsh]
abbrev byC (l : List UInt8) : Array Value := (nums .u8 (bi l)).toArray
theorem HB.reads {w : World} {b : Nat} {l : List UInt8} (h : HB w b (byC l) 5) (hl : l.length ≤ 9223372036854775807) : Rb w (some ⟨b, 0, none⟩) l := by
  obtain ⟨m, hb⟩ := h
  refine Rb_of_cells hl (fun j hj => ?_)
  simp [World.cell?, hb, nums, bi, List.getElem?_eq_getElem hj]
/-- The rows by the operation's number. -/
def knO : Nat → List UInt8
  | 0 => kn1
  | 1 => kn1
  | 2 => kn2
  | 3 => kn2
  | 4 => kn3
  | 5 => kn4
  | _ => kn5
def knN : Nat → Nat
  | 0 => 3
  | 1 => 3
  | 2 => 56
  | 3 => 56
  | 4 => 55
  | 5 => 56
  | _ => 64
theorem knN_eq : ∀ i, (knO i).length = knN i
  | 0 => rfl
  | 1 => rfl
  | 2 => rfl
  | 3 => rfl
  | 4 => rfl
  | 5 => rfl
  | _ + 6 => rfl
def MemV (w0 w : World) (i : Nat) (v : Value) : Prop := ∃ b, v = .slice (some ⟨b, 0, none⟩) (knN i) (knN i) ∧ w0.heap.size ≤ b ∧ HB w b (byC (knO i)) 5
def OutV (w0 w : World) (x v : Value) : Prop := ∃ g v1 v3 v4 v5 v6, v = .slice (some ⟨g, 0, none⟩) 7 7 ∧ HB w g #[.slice none 0 0, v1, v3, v4, v5, v6, x] 22 ∧ MemV w0 w 1 v1 ∧ MemV w0 w 3 v3 ∧ MemV w0 w 4 v4 ∧ MemV w0 w 5 v5 ∧ MemV w0 w 6 v6
theorem MemV.st {w0 w w' : World} {i : Nat} {v : Value} (h : MemV w0 w i v) (hs : St w w') : MemV w0 w' i v := by
  obtain ⟨b, h1, h2, h3⟩ := h
  exact ⟨b, h1, h2, hs _ _ _ h3⟩
theorem OutV.st {w0 w w' : World} {x v : Value} (h : OutV w0 w x v) (hs : St w w') : OutV w0 w' x v := by
  obtain ⟨g, v1, v3, v4, v5, v6, h0, h1, h2, h3, h4, h5, h6⟩ := h
  exact ⟨g, v1, v3, v4, v5, v6, h0, hs _ _ _ h1, h2.st hs, h3.st hs, h4.st hs, h5.st hs, h6.st hs⟩
structure KJ (w0 : World) (x : Value) (listed : Array Bool) (vs : Nat → Value) (w : World) : Prop where
  size : listed.size = 10
  fr : Fr No w0 w
  mem : ∀ i, i < 7 → listed.getD i false = true → MemV w0 w i (vs (20 + i))
  mv : listed.getD 7 false = true → vs 27 = x
  out : listed.getD 8 false = true → OutV w0 w x (vs 28)
  asg : listed.getD 9 false = true → OutV w0 w x (vs 3)
section
variable {w0 w w' : World} {x v : Value} {listed : Array Bool} {vs : Nat → Value}
theorem KJ.mem_step (i : Nat) (hi : i < 7) (h : KJ w0 x listed vs w) (hs : St w w') (hf : Fr No w0 w') (hv : MemV w0 w' i v) : KJ w0 x (listed.setIfInBounds i true) (fun k => if k = 20 + i then v else vs k) w' := by
  refine ⟨by simp [h.size], hf, fun j hj hl => ?_, fun hl => ?_, fun hl => ?_, fun hl => ?_⟩
  · by_cases e : i = j
    · subst e; rw [if_pos rfl]; exact hv
    · rw [getD_set_ne false e] at hl
      rw [if_neg (by omega)]; exact (h.mem j hj hl).st hs
  · rw [getD_set_ne false (by omega)] at hl
    rw [if_neg (by omega)]; exact h.mv hl
  · rw [getD_set_ne false (by omega)] at hl
    rw [if_neg (by omega)]; exact (h.out hl).st hs
  · rw [getD_set_ne false (by omega)] at hl
    rw [if_neg (by omega)]; exact (h.asg hl).st hs
theorem KJ.mv_step (h : KJ w0 x listed vs w) : KJ w0 x (listed.setIfInBounds 7 true) (fun k => if k = 27 then x else vs k) w := by
  refine ⟨by simp [h.size], h.fr, fun j hj hl => ?_, fun hl => ?_, fun hl => ?_, fun hl => ?_⟩
  · rw [getD_set_ne false (by omega)] at hl
    rw [if_neg (by omega)]; exact h.mem j hj hl
  · rw [if_pos rfl]
  · rw [getD_set_ne false (by omega)] at hl
    rw [if_neg (by omega)]; exact h.out hl
  · rw [getD_set_ne false (by omega)] at hl
    rw [if_neg (by omega)]; exact h.asg hl
theorem KJ.out_step (h : KJ w0 x listed vs w) (hs : St w w') (hf : Fr No w0 w') (hv : OutV w0 w' x v) : KJ w0 x (listed.setIfInBounds 8 true) (fun k => if k = 28 then v else vs k) w' := by
  refine ⟨by simp [h.size], hf, fun j hj hl => ?_, fun hl => ?_, fun hl => ?_, fun hl => ?_⟩
  · rw [getD_set_ne false (by omega)] at hl
    rw [if_neg (by omega)]; exact (h.mem j hj hl).st hs
  · rw [getD_set_ne false (by omega)] at hl
    rw [if_neg (by omega)]; exact h.mv hl
  · rw [if_pos rfl]; exact hv
  · rw [getD_set_ne false (by omega)] at hl
    rw [if_neg (by omega)]; exact (h.asg hl).st hs
theorem KJ.asg_step (h : KJ w0 x listed vs w) (h8 : listed.getD 8 false = true) : KJ w0 x (listed.setIfInBounds 9 true) (fun k => if k = 3 then vs 28 else vs k) w := by
  refine ⟨by simp [h.size], h.fr, fun j hj hl => ?_, fun hl => ?_, fun hl => ?_, fun hl => ?_⟩
  · rw [getD_set_ne false (by omega)] at hl
    rw [if_neg (by omega)]; exact h.mem j hj hl
  · rw [getD_set_ne false (by omega)] at hl
    rw [if_neg (by omega)]; exact h.mv hl
  · rw [getD_set_ne false (by omega)] at hl
    rw [if_neg (by omega)]; exact h.out hl
  · rw [if_pos rfl]; exact h.out h8
end
theorem heap_new_HB (w : World) (C : Array Value) (t : TypeId) : HB (w.alloc (.cells C t)) w.heap.size C t := ⟨_, heap_alloc_new w _⟩
def sevL (k : Nat) : List UInt8 := (List.range k).map fun i => UInt8.ofNat (7 * i)
theorem sevL_length (k : Nat) : (sevL k).length = k := by simp [sevL]
theorem sevL_succ (k : Nat) : bi (sevL (k + 1)) = bi (sevL k) ++ [(7 * (k : Int)) % 256] := by
  unfold sevL
  rw [List.range_succ, List.map_append, bi_append]
  simp [bi]
def kns : List (List UInt8) := [kn0, kn1, kn2, kn3, kn4, kn5, kn6]
def khs : List (List UInt8) := [kh0, kh1, kh2, kh3, kh4, kh5, kh6]
theorem kns6 : kn6 = sevL 1000 := rfl
theorem kns6_l : kn6.length = 1000 := by unfold kn6; simp
theorem kns_hex (k : Nat) (hk : k < 7) : hexL (sha (kns.getD k [])) = khs.getD k [] := by
  have : k = 0 ∨ k = 1 ∨ k = 2 ∨ k = 3 ∨ k = 4 ∨ k = 5 ∨ k = 6 := by omega
  rcases this with rfl | rfl | rfl | rfl | rfl | rfl | rfl
  · simp only [kns, khs, List.getD_cons_zero, List.getD_cons_succ]; exact kx0
  · simp only [kns, khs, List.getD_cons_zero, List.getD_cons_succ]; exact kx1
  · simp only [kns, khs, List.getD_cons_zero, List.getD_cons_succ]; exact kx2
  · simp only [kns, khs, List.getD_cons_zero, List.getD_cons_succ]; exact kx3
  · simp only [kns, khs, List.getD_cons_zero, List.getD_cons_succ]; exact kx4
  · simp only [kns, khs, List.getD_cons_zero, List.getD_cons_succ]; exact kx5
  · simp only [kns, khs, List.getD_cons_zero, List.getD_cons_succ]; exact kx6
theorem Rb_nil0 (w : World) : Rb w none [] := ⟨rfl, by simp, fun h => absurd h (by simp)⟩
set_option maxRecDepth 100000 in
/-- The list of lists, when all is made. -/
theorem OutV.reads {w0 w : World} {v : Value} {A : Option Addr} {c : Nat} (h : OutV w0 w (.slice A 1000 c) v) (hc : 1000 ≤ c) (hr : Rb w A (sevL 1000)) : ∃ g, v = .slice (some ⟨g, 0, none⟩) 7 7 ∧ Rbs w (some ⟨g, 0, none⟩) kns := by
  obtain ⟨g, v1, v3, v4, v5, v6, h0, ⟨m, hb⟩, ⟨b1, rfl, h1, k1⟩, ⟨b3, rfl, h3, k3⟩, ⟨b4, rfl, h4, k4⟩, ⟨b5, rfl, h5, k5⟩, ⟨b6, rfl, h6, k6⟩⟩ := h
  refine ⟨g, h0, Rbs.mk_ (by decide) (fun i hi => ?_)⟩
  have hi7 : i < 7 := hi
  have hcell : ∀ (i : Nat) (u : Value), (#[.slice none 0 0, .slice (some ⟨b1, 0, none⟩) (knN 1) (knN 1), .slice (some ⟨b3, 0, none⟩) (knN 3) (knN 3), .slice (some ⟨b4, 0, none⟩) (knN 4) (knN 4), .slice (some ⟨b5, 0, none⟩) (knN 5) (knN 5), .slice (some ⟨b6, 0, none⟩) (knN 6) (knN 6), .slice A 1000 c] : Array Value)[i]? = some u → w.cell? ⟨g, i, none⟩ = some u := fun i u hu => by
    simp only [World.cell?, hb]; exact hu
  have : i = 0 ∨ i = 1 ∨ i = 2 ∨ i = 3 ∨ i = 4 ∨ i = 5 ∨ i = 6 := by omega
  rcases this with rfl | rfl | rfl | rfl | rfl | rfl | rfl
  · exact ⟨none, 0, hcell 0 _ rfl, Nat.le_refl _, Rb_nil0 w⟩
  · show ∃ Ai ci, w.cell? ⟨g, 1, none⟩ = some (.slice Ai kn1.length ci) ∧ kn1.length ≤ ci ∧ Rb w Ai kn1
    rw [show kn1.length = 3 from rfl]
    exact ⟨_, 3, hcell 1 _ rfl, Nat.le_refl _, k1.reads (by decide)⟩
  · show ∃ Ai ci, w.cell? ⟨g, 2, none⟩ = some (.slice Ai kn2.length ci) ∧ kn2.length ≤ ci ∧ Rb w Ai kn2
    rw [show kn2.length = 56 from rfl]
    exact ⟨_, 56, hcell 2 _ rfl, Nat.le_refl _, k3.reads (by decide)⟩
  · show ∃ Ai ci, w.cell? ⟨g, 3, none⟩ = some (.slice Ai kn3.length ci) ∧ kn3.length ≤ ci ∧ Rb w Ai kn3
    rw [show kn3.length = 55 from rfl]
    exact ⟨_, 55, hcell 3 _ rfl, Nat.le_refl _, k4.reads (by decide)⟩
  · show ∃ Ai ci, w.cell? ⟨g, 4, none⟩ = some (.slice Ai kn4.length ci) ∧ kn4.length ≤ ci ∧ Rb w Ai kn4
    rw [show kn4.length = 56 from rfl]
    exact ⟨_, 56, hcell 4 _ rfl, Nat.le_refl _, k5.reads (by decide)⟩
  · show ∃ Ai ci, w.cell? ⟨g, 5, none⟩ = some (.slice Ai kn5.length ci) ∧ kn5.length ≤ ci ∧ Rb w Ai kn5
    rw [show kn5.length = 64 from rfl]
    exact ⟨_, 64, hcell 5 _ rfl, Nat.le_refl _, k6.reads (by decide)⟩
  · show ∃ Ai ci, w.cell? ⟨g, 6, none⟩ = some (.slice Ai kn6.length ci) ∧ kn6.length ≤ ci ∧ Rb w Ai kn6
    rw [kns6_l, kns6]
    exact ⟨A, c, hcell 6 _ rfl, hc, hr⟩
end Go.Proofs.YtbaeddppihjgfaaDoor.Sg
