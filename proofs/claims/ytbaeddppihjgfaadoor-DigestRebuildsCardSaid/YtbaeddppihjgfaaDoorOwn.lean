/- Lists of lists of the call's own, no two of which lead to one block: appends to them. -/
import Derived.Test.YtbaeddppihjgfaaDoorRooms
import Derived.Test.YtbaeddppihjgfaaDoorWApart
namespace Go.Proofs.YtbaeddppihjgfaaDoor.Sg
open Go Go.RowKit Go.Proofs.YtbaeddppihjgfaaDoorW.PrintWords
set_option linter.unusedVariables false
abbrev LL2 := List (List UInt8)
abbrev LOwn (w : World) (base : Nat) (v : Value) (ls : LL2) : Prop := Kd.S KB 22 w base (fun b => base ≤ b) v (ls.map bi)
theorem LOwn.nil (w : World) (base : Nat) : LOwn w base (.slice none 0 0) [] := Kd.S_nil _ _ _ _ _
theorem LOwn.fr {w w1 : World} {base : Nat} {v : Value} {ls : LL2} (h : LOwn w base v ls) (hf : Fr No w w1) : LOwn w1 base v ls := Kd.S_below h hf.below
theorem LOwn.lower {w : World} {base b2 : Nat} {v : Value} {ls : LL2} (h : LOwn w base v ls) (hb : b2 ≤ base) : LOwn w b2 v ls := Kd.S_mono (Kd.S_lower h hb) (fun k hk => Nat.le_trans hb hk)
theorem LOwn.reads {w : World} {base : Nat} {v : Value} {ls : LL2} (h : LOwn w base v ls) : ∃ A c, v = .slice A ls.length c ∧ ls.length ≤ c ∧ Rbs w A ls := by
  obtain ⟨A, c, e, hl, hr⟩ := Kd.S_reads h
  rw [List.length_map] at e hl hr
  exact ⟨A, c, e, hl, hr⟩
theorem LOwn.frS {S : Nat → Prop} {w w1 : World} {base : Nat} {v : Value} {ls : LL2} (h : LOwn w base v ls) (hf : Fr S w w1) (hS : ∀ k, S k → ¬ base ≤ k ∨ w.heap.size ≤ k) : LOwn w1 base v ls :=
  Kd.S_step h (fun k hk hlt => hf.block k hlt (fun hs => (hS k hs).elim (fun h => h hk) (fun h => by omega)))
section
variable {P : Program} {ops : Array Oper} {rest : List Oper} {o : Oper} {a : Act} {Q : Exit → Act → World → Prop} {Kc : Act → World → Prop}
theorem mine_M {W : World} {base B2 : Nat} {u : Value} {l : List UInt8} (h : Mine W B2 u (bi l)) (hb : base ≤ B2) : KB.M W base (fun b => B2 ≤ b) (bi l) [u] :=
  ⟨_, rfl, Kd.R_mono (Kd.R_lower (Kd.R_bound h) hb) (fun b hb => hb.2.1)⟩
/-- append(v, u) of a list of lists: v was made ahead of W0, u behind it. -/
theorem app_list {S : Nat → Prop} {w0 W0 W : World} (hgd : o.guard = none) (s x : Operand) (t : TypeId)
    (ho : o.op = .call { callee := .builtin .append, args := #[s, x], argTypes := #[t, t] }) (ht : P.underlying t = some (.slice 22))
    (hinfo : (P.info? 22).map (fun i => (i.zero, i.size, i.bytes)) = some (some (.slice none 0 0), 1, 24))
    (v u : Value) (ls : LL2) (l : List UInt8) (hs : a.eval s = v) (hx : a.eval x = .slice (some ⟨W.heap.size, 0, none⟩) 1 1)
    (HO : LOwn W0 w0.heap.size v ls) (H0 : Fr No W0 W) (HM : Mine W W0.heap.size u (bi l)) (HB : w0.heap.size ≤ W0.heap.size) (HF : Fr S w0 W) (hl : ls.length ≤ 5864062014634)
    (h : ∀ v1 w1, LOwn w1 w0.heap.size v1 (ls ++ [l]) → Fr S w0 w1 → wpList P ops Q rest (a.put o.dst v1) w1) :
    wpList P ops Q (o :: rest) a (W.alloc (.cells #[u] 22)) := by
  have hS : Kd.S KB 22 W w0.heap.size (fun k => w0.heap.size ≤ k ∧ ¬ W0.heap.size ≤ k) v (ls.map bi) :=
    Kd.S_below (Kd.S_mono (Kd.S_bound HO) (fun k hk => ⟨hk.1, by have := hk.2.2.1; omega⟩)) H0.below
  have hob : ∀ k, v.ownBlock = some k → w0.heap.size ≤ k ∧ k < W0.heap.size := fun k hk => ⟨Kd.S_base HO k hk, Kd.S_lt HO k hk⟩
  refine Kd.S_append KB (w0 := W) w0.heap.size hgd s x t 22 (.slice none 0 0) 24 ho ht hinfo rfl (Nat.succ_pos 0) (by decide) v (ls.map bi) (bi l) [u] (fun k => w0.heap.size ≤ k) (fun k => W0.heap.size ≤ k) hs hx (mine_M HM HB) (fun k hk => ⟨by omega, fun e => by have := (hob k e.symm).2; omega⟩) (fun k hk => by have := HF.size; omega) hS (Below.refl _ _) HF.size (by rw [List.length_map]; omega) ?_
  intro v1 w1 h1 _ h3 _
  refine h v1 w1 (by unfold LOwn; rw [List.map_append]; exact h1) (HF.grown h3 (fun k hk => .inr (hob k hk).1))
theorem app_list_step {S : Nat → Prop} {w0 W0 W : World} (hw : Region.wanted o (yielded ops a.tmps) = true) (s x : Operand) (t : TypeId)
    (ho : o.op = .call { callee := .builtin .append, args := #[s, x], argTypes := #[t, t] }) (ht : P.underlying t = some (.slice 22))
    (hinfo : (P.info? 22).map (fun i => (i.zero, i.size, i.bytes)) = some (some (.slice none 0 0), 1, 24))
    (v u : Value) (ls : LL2) (l : List UInt8) (hs : a.eval s = v) (hx : a.eval x = .slice (some ⟨W.heap.size, 0, none⟩) 1 1)
    (HO : LOwn W0 w0.heap.size v ls) (H0 : Fr No W0 W) (HM : Mine W W0.heap.size u (bi l)) (HB : w0.heap.size ≤ W0.heap.size) (HF : Fr S w0 W) (hl : ls.length ≤ 5864062014634)
    (h : ∀ v1 w1, LOwn w1 w0.heap.size v1 (ls ++ [l]) → Fr S w0 w1 → Kc (a.put o.dst v1) w1) :
    if Region.wanted o (yielded ops a.tmps) = true then Oper.wp P o a (W.alloc (.cells #[u] 22)) Kc Q else Kc (a.put o.dst undef) (W.alloc (.cells #[u] 22)) := by
  have hS : Kd.S KB 22 W w0.heap.size (fun k => w0.heap.size ≤ k ∧ ¬ W0.heap.size ≤ k) v (ls.map bi) :=
    Kd.S_below (Kd.S_mono (Kd.S_bound HO) (fun k hk => ⟨hk.1, by have := hk.2.2.1; omega⟩)) H0.below
  have hob : ∀ k, v.ownBlock = some k → w0.heap.size ≤ k ∧ k < W0.heap.size := fun k hk => ⟨Kd.S_base HO k hk, Kd.S_lt HO k hk⟩
  refine Kd.S_append_step KB (w0 := W) w0.heap.size hw s x t 22 (.slice none 0 0) 24 ho ht hinfo rfl (Nat.succ_pos 0) (by decide) v (ls.map bi) (bi l) [u] (fun k => w0.heap.size ≤ k) (fun k => W0.heap.size ≤ k) hs hx (mine_M HM HB) (fun k hk => ⟨by omega, fun e => by have := (hob k e.symm).2; omega⟩) (fun k hk => by have := HF.size; omega) hS (Below.refl _ _) HF.size (by rw [List.length_map]; omega) ?_
  intro v1 w1 h1 _ h3 _
  refine h v1 w1 (by unfold LOwn; rw [List.map_append]; exact h1) (HF.grown h3 (fun k hk => .inr (hob k hk).1))
open Classical in
/-- append(v, row) where the row, anywhere, holds one list u; v's blocks are none of Pk, u's are. -/
theorem app_list_wp {K : Act → World → Prop} {S : Nat → Prop} {w0 W : World} (hgd : o.guard = none) (s x : Operand) (t : TypeId)
    (ho : o.op = .call { callee := .builtin .append, args := #[s, x], argTypes := #[t, t] }) (ht : P.underlying t = some (.slice 22))
    (hinfo : (P.info? 22).map (fun i => (i.zero, i.size, i.bytes)) = some (some (.slice none 0 0), 1, 24))
    (v u : Value) (ls : LL2) (l : List UInt8) (ad : Addr) (c : Nat) (hs : a.eval s = v) (hx : a.eval x = .slice (some ad) 1 c) (hcell : W.cell? ad = some u) (Pk : Nat → Prop)
    (HO : Kd.S KB 22 W w0.heap.size (fun k => w0.heap.size ≤ k ∧ ¬ Pk k) v (ls.map bi)) (HM : Kd.R (Kd.int .u8) 5 W w0.heap.size (fun k => w0.heap.size ≤ k ∧ Pk k) u (bi l)) (HF : Fr S w0 W) (hl : ls.length ≤ 5864062014634)
    (h : ∀ v1 w1, LOwn w1 w0.heap.size v1 (ls ++ [l]) → Fr S w0 w1 → K (a.put o.dst v1) w1) : o.wp P a W K Q := by
  obtain ⟨f, hf, hR⟩ := Kd.S_tag HO ls.length (fun k => w0.heap.size ≤ k ∧ Pk k) (fun k hk h2 => h2.2 hk.2)
  have hw : Region.wanted o (yielded #[] a.tmps) = true := by simp [Region.wanted, hgd]
  have hob : ∀ k, v.ownBlock = some k → w0.heap.size ≤ k ∧ ¬ Pk k := fun k hk => (Kd.S_R HO).1 k hk
  have hrow : ReadsRow (fun (p : List Int × Nat) cs => p = (bi l, ls.length) ∧ cs = [u]) (Kd.tag f KB).sz W (some ad) 1 [(bi l, ls.length)] := by
    refine ⟨rfl, by decide, fun _ => ⟨ad, rfl, fun j p hj => ?_⟩⟩
    have hj0 : j = 0 := by
      have := (List.getElem?_eq_some_iff.1 hj).1
      simpa using this
    subst hj0
    refine ⟨[u], rfl, ⟨by simpa using hj.symm, rfl⟩, fun i x hi => ?_⟩
    cases i with
    | zero =>
      obtain rfl : u = x := by simpa using hi
      have : ad.add (0 * (Kd.tag f KB).sz + 0) = ad := by simp [Addr.add]
      rw [this]; exact hcell
    | succ i => simp at hi
  have hn : (ls.map bi).zipIdx.length = ls.length := by simp
  have := Kd.R_append_rows_step (Kd.tag f KB) (ops := #[]) (P := P) (Q := Q) (Kc := K) (a := a) (o := o) (w0 := W) (W := W) w0.heap.size hw s x t 22 (.slice none 0 0) 24 ho ht hinfo rfl (Nat.succ_pos 0) (by decide) v (ls.map bi).zipIdx [(bi l, ls.length)] (some ad) 1 c (fun k => w0.heap.size ≤ k) (fun k => w0.heap.size ≤ k ∧ Pk k) hs hx
    (Kd.R_mono hR (fun _ hk => hk.1)) hrow (by rintro p cs ⟨rfl, rfl⟩; exact ⟨_, rfl, Kd.R_mono HM (fun k hk => ⟨hk, hf k hk⟩)⟩) (fun k hk => ⟨hk.1, fun e => (hob k e.symm).2 hk.2⟩) (fun k hk => by have := HF.size; omega) (Below.refl _ _) HF.size (by rw [hn]; omega) ?_
  · rwa [if_pos hw] at this
  intro v1 w1 h1 _ h3 _
  refine h v1 w1 ⟨f, ?_⟩ (HF.grown h3 (fun k hk => .inr (hob k hk).1))
  have hz := Kd.zip_snoc (ls.map bi) (bi l)
  rw [List.length_map] at hz
  rw [List.map_append]
  exact hz ▸ h1
end
/-- A row of one byte of the call's own. -/
theorem mine_one (w : World) (n : Int) : Mine (w.alloc (.cells #[.int .u8 n] 5)) w.heap.size (.slice (some ⟨w.heap.size, 0, none⟩) 1 1) [n] :=
  Kd.R_of_own (enc := Value.int .u8) (by simpa [encs] using World.ownsRow_lit (base := w.heap.size) (e := 5) (size := 1) w #[.int .u8 n] 1 (Nat.le_refl _) (by simp [maxLen]) rfl) (fun _ _ => trivial)
end Go.Proofs.YtbaeddppihjgfaaDoor.Sg
