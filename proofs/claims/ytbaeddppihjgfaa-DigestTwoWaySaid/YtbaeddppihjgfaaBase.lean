/- What changes between two worlds, bytes as numbers, blocks that are known whole: plain lemmas, no program. -/
import Derived.WalkKit
import Derived.Laws.CopyOwn
import Derived.Laws.IdiomStrings
import Derived.Test.YtbaeddppihjgfaaW32
import Derived.Test.YtbaeddppihjgfaaWWords
import Derived.Test.YtbaeddppihjgfaaWMore
import Derived.Test.YtbaeddppihjgfaaWKept
namespace Go.Proofs.Ytbaeddppihjgfaa.Sg
open Go Go.RowKit Go.Proofs.YtbaeddppihjgfaaW.PrintWords
set_option linter.unusedVariables false
/-! ### What may have changed -/
/-- Of the blocks that were there, those of S alone may have changed. -/
structure Fr (S : Nat → Prop) (w w' : World) : Prop where
  os : w'.os = w.os
  tape : w'.tape = w.tape
  output : w'.output = w.output
  size : w.heap.size ≤ w'.heap.size
  block : ∀ k, k < w.heap.size → ¬ S k → w'.heap[k]? = w.heap[k]?
abbrev No : Nat → Prop := fun _ => False
section
variable {S S2 : Nat → Prop} {w w1 w2 : World}
theorem Fr.refl (S : Nat → Prop) (w : World) : Fr S w w := ⟨rfl, rfl, rfl, Nat.le_refl _, fun _ _ _ => rfl⟩
theorem Fr.trans (h : Fr S w w1) (k : Fr S2 w1 w2) (hs : ∀ k, S2 k → S k ∨ w.heap.size ≤ k) : Fr S w w2 :=
  ⟨k.os.trans h.os, k.tape.trans h.tape, k.output.trans h.output, Nat.le_trans h.size k.size, fun i hi hn =>
    (k.block i (Nat.lt_of_lt_of_le hi h.size) (fun h2 => (hs i h2).elim hn (fun h3 => by omega))).trans (h.block i hi hn)⟩
theorem Fr.mono (h : Fr S w w1) (hs : ∀ k, S k → S2 k ∨ w.heap.size ≤ k) : Fr S2 w w1 :=
  ⟨h.os, h.tape, h.output, h.size, fun i hi hn => h.block i hi (fun h2 => (hs i h2).elim hn (fun h3 => by omega))⟩
theorem Fr.then_ (h : Fr S w w1) (k : Fr No w1 w2) : Fr S w w2 := h.trans k (fun _ h => h.elim)
theorem Fr.of_below (h : Below w.heap.size w w1) : Fr S w w1 := ⟨h.os, h.tape, h.output, h.size, fun i hi _ => h.block i hi⟩
theorem Fr.below (h : Fr No w w1) : Below w.heap.size w w1 := ⟨h.os, h.tape, h.output, h.size, fun i hi => h.block i hi (fun h => h)⟩
theorem Fr.kept (h : Fr S w w1) : Kept w w1 S := ⟨h.size, h.block⟩
theorem Fr.drew (h : Fr S w w1) : Fr S w w1.drew := ⟨h.os, h.tape, h.output, h.size, h.block⟩
theorem Fr.drewN (h : Fr S w w1) (n : Nat) : Fr S w (w1.drewN n) := ⟨h.os, h.tape, h.output, h.size, h.block⟩
theorem Fr.drawn (h : Fr S w w1) (k : Drawn0 w1 w2) : Fr S w w2 := by obtain ⟨n, rfl⟩ := k; exact h.drewN n
theorem Fr.alloc (h : Fr S w w1) (o : Obj) : Fr S w (w1.alloc o) :=
  h.trans (S2 := No) ⟨rfl, rfl, rfl, by simp, fun k hk _ => Below.heap_alloc _ _ _ hk⟩ (fun _ h => h.elim)
theorem Fr.setCell (h : Fr S w w1) {p : Addr} (hp : S p.block ∨ w.heap.size ≤ p.block) (u : Value) : Fr S w (w1.setCell p u) :=
  h.trans (S2 := fun k => k = p.block) ⟨rfl, rfl, rfl, by simp [World.setCell], fun k hk hn => Below.heap_setCell _ _ _ _ hn⟩ (fun k hk => by rw [hk]; exact hp)
theorem Fr.grown (h : Fr S w w1) {row : Option Nat} (hg : w1.grownBy w2 row) (hr : ∀ k, row = some k → S k ∨ w.heap.size ≤ k) : Fr S w w2 :=
  h.trans (S2 := fun k => row = some k) ⟨hg.os, hg.tape, hg.output, hg.size, fun i hi hn => hg.block i hi (fun he => hn he.symm)⟩ hr
theorem Fr.of_grown {b n c : Nat} {w1 w2 : World} (hg : w1.grownBy w2 (Value.slice (some ⟨b, 0, none⟩) n c).ownBlock) : Fr (fun k => k = b) w1 w2 :=
  (Fr.refl (fun k => k = b) w1).grown hg (fun k hk => .inl (by simpa [Value.ownBlock] using hk.symm))
theorem Fr.heap (h : Fr S w w1) {g : Nat} {o : Obj} (hb : w.heap[g]? = some o) (hn : ¬ S g) : w1.heap[g]? = some o := by
  have hlt : g < w.heap.size := (Array.getElem?_eq_some_iff.1 hb).1
  exact (h.block g hlt hn).trans hb
theorem Fr.cell (h : Fr S w w1) {a : Addr} {v : Value} (hc : w.cell? a = some v) (hn : ¬ S a.block) : w1.cell? a = some v := cell_kept hc h.kept hn
end

/-! ### Bytes -/
/-- Bytes as the print's numbers. -/
def bi (l : List UInt8) : List Int := l.map fun b => (b.toNat : Int)
theorem bi_length (l : List UInt8) : (bi l).length = l.length := by simp [bi]
theorem bi_append (l m : List UInt8) : bi (l ++ m) = bi l ++ bi m := by simp [bi]
theorem bi_take (l : List UInt8) (n : Nat) : bi (l.take n) = (bi l).take n := by simp [bi]
theorem bi_drop (l : List UInt8) (n : Nat) : bi (l.drop n) = (bi l).drop n := by simp [bi]
theorem bi_inj {l m : List UInt8} (h : bi l = bi m) : l = m := by
  induction l generalizing m with
  | nil => cases m with
    | nil => rfl
    | cons _ _ => simp [bi] at h
  | cons a l ih => cases m with
    | nil => simp [bi] at h
    | cons b m =>
      simp only [bi, List.map_cons, List.cons.injEq] at h
      rw [ih (by exact h.2), UInt8.toNat_inj.1 (by omega : a.toNat = b.toNat)]
theorem rd_bi (l : List UInt8) (i : Nat) (h : i < l.length) : rd (bi l) (i : Int) = un (b2w l[i]) := by
  rw [un_b2w]; simp [rd, bi, List.getD_eq_getElem?_getD, List.getElem?_eq_getElem h]
abbrev Rb (w : World) (A : Option Addr) (l : List UInt8) : Prop := Kd.C (Kd.int .u8) w A l.length (bi l)
/-- What a list of numbers tells of byte i. -/
theorem C_byte {w : World} {A : Option Addr} {l : List UInt8} (h : Rb w A l) (i : Nat) (hi : i < l.length) : ∃ ad, A = some ad ∧ w.cell? (ad.add i) = some (.int .u8 (un (b2w l[i]))) := by
  have h' : Kd.C (Kd.int .u8) w A (bi l).length (bi l) := by rw [bi_length]; exact h
  obtain ⟨ad, e, hc⟩ := Kd.at_int h' (i : Int) (by omega) (by rw [bi_length]; omega)
  rw [rd_bi l i hi] at hc
  exact ⟨ad, e, by simpa using hc⟩
/-- The cells of a list that is read, one by one. -/
theorem C_cells {w : World} {A : Option Addr} {xs : List Int} (h : Kd.C (Kd.int .u8) w A xs.length xs) (hp : 0 < xs.length) : ∃ ad, A = some ad ∧ ∀ j v, (nums .u8 xs)[j]? = some v → w.cell? (ad.add j) = some v := by
  obtain ⟨ad, e, hc⟩ := h.2.2 hp
  refine ⟨ad, e, fun j v hv => ?_⟩
  have hj : j < xs.length := by
    have := (List.getElem?_eq_some_iff.1 hv).1
    rwa [nums_length] at this
  obtain ⟨c, _, hk, hcc⟩ := hc j xs[j] (List.getElem?_eq_getElem hj)
  have he : v = .int .u8 xs[j] := by simp [nums, List.getElem?_eq_getElem hj] at hv; exact hv.symm
  subst he
  obtain rfl : c = [.int .u8 xs[j]] := hk
  have := hcc 0 _ rfl
  simpa [Kd.int, Kd.scalar] using this
theorem Rb_take {w : World} {A : Option Addr} {l : List UInt8} (h : Rb w A l) (n : Nat) (hn : n ≤ l.length) : Rb w A (l.take n) := by
  have h1 : Kd.C (Kd.int .u8) w A (bi l).length (bi l) := by rw [bi_length]; exact h
  have := Kd.C_take h1 (m := n) (by rw [bi_length]; exact hn)
  rw [← bi_take, bi_length] at this
  exact this
theorem Rb_drop {w : World} {A : Option Addr} {l : List UInt8} {c : Nat} (h : Rb w A l) (n : Nat) (hn : n ≤ l.length) (hc : l.length ≤ c) : Rb w (if c = n then A else A.map (·.add n)) (l.drop n) := by
  have h1 : Kd.C (Kd.int .u8) w A (bi l).length (bi l) := by rw [bi_length]; exact h
  have := Kd.C_drop h1 (m := n) (c := c) (by rw [bi_length]; exact hn) (by rw [bi_length]; exact hc)
  rw [← bi_drop, bi_length] at this
  simp only [show (Kd.int IntKind.u8).sz = 1 from rfl, Nat.mul_one] at this
  exact this
theorem Rb_of_cells {w : World} {g off : Nat} {l : List UInt8} (hl : l.length ≤ 9223372036854775807) (h : ∀ j (hj : j < l.length), w.cell? ⟨g, off + j, none⟩ = some (.int .u8 (l[j].toNat : Int))) : Rb w (some ⟨g, off, none⟩) l := by
  refine Kd.C_of_reads (enc := Value.int .u8) (d := (0 : Int)) (h1 := fun _ => rfl) ⟨bi_length l, hl, fun _ => ⟨_, rfl, fun j hj => ?_⟩⟩
  have ha : (⟨g, off, none⟩ : Addr).add j = ⟨g, off + j, none⟩ := by unfold Addr.add; split <;> simp_all
  rw [ha, h j hj]
  simp [bi, List.getD_eq_getElem?_getD, List.getElem?_eq_getElem hj]
theorem Rb_le {w : World} {A : Option Addr} {l : List UInt8} (h : Rb w A l) : l.length ≤ 9223372036854775807 := h.2.1
theorem C_fr {w w' : World} {A : Option Addr} {n : Nat} {xs : List Int} (h : Kd.C (Kd.int .u8) w A n xs) (hf : Fr No w w') : Kd.C (Kd.int .u8) w' A n xs := Kd.C_below h hf.below

theorem str_bi (l : List UInt8) : strOfNums (bi l) = ⟨l.toArray⟩ := by
  unfold strOfNums bi
  rw [List.map_map]
  have : ((fun n : Int => UInt8.ofNat n.toNat) ∘ fun b : UInt8 => (b.toNat : Int)) = id := by funext b; simp
  rw [this, List.map_id]
theorem str_toList (l : List UInt8) : (strOfNums (bi l)).toList = l := by rw [str_bi, ByteArray.toList_eq]
theorem beq_str (a b : List UInt8) : ((strOfNums (bi a)).toList == (strOfNums (bi b)).toList) = decide (a = b) := by
  rw [str_toList, str_toList]; exact (Bool.eq_iff_iff.2 (by simp))
/-! ### Appends to a list of the call's own (made since w0) -/
abbrev Mine (w : World) (base : Nat) (v : Value) (xs : List Int) : Prop := Kd.R (Kd.int .u8) 5 w base (fun _ => True) v xs
theorem Mine.fr {S : Nat → Prop} {w w1 : World} {base : Nat} {v : Value} {xs : List Int} (h : Mine w base v xs) (hf : Fr S w w1) (hn : ∀ k, v.ownBlock = some k → ¬ S k) : Mine w1 base v xs := by
  have h1 : Kd.R (Kd.int .u8) 5 w base (fun k => v.ownBlock = some k) v xs := ⟨fun k hk => hk, h.2.imp (fun inner hi => ⟨hi.1, hi.2.imp_ (fun _ _ hp => hp)⟩)⟩
  exact Kd.R_mono (Kd.R_kept h1 hf.kept (fun k hk => hn k hk)) (fun _ _ => trivial)
theorem Mine.base {w : World} {base : Nat} {v : Value} {xs : List Int} (h : Mine w base v xs) (k : Nat) (hk : v.ownBlock = some k) : base ≤ k ∧ k < w.heap.size := by
  obtain ⟨inner, ho⟩ := Kd.R_own h
  exact ⟨own_base ho k hk, own_lt ho k hk⟩
theorem Mine.fr' {S : Nat → Prop} {w w1 : World} {base : Nat} {v : Value} {xs : List Int} (h : Mine w base v xs) (hf : Fr S w w1) (hn : ∀ k, base ≤ k → ¬ S k) : Mine w1 base v xs := h.fr hf (fun k hk => hn k (h.base k hk).1)
theorem Mine.lower {w : World} {base b2 : Nat} {v : Value} {xs : List Int} (h : Mine w base v xs) (hb : b2 ≤ base) : Mine w b2 v xs := Kd.R_lower h hb
theorem Mine.nil (w : World) (base : Nat) : Mine w base (.slice none 0 0) [] := Kd.R_nil _ _ _ _ _
theorem Mine.reads {w : World} {base : Nat} {v : Value} {l : List UInt8} (h : Mine w base v (bi l)) : ∃ A c, v = .slice A l.length c ∧ l.length ≤ c ∧ Rb w A l := by
  obtain ⟨A, c, e, hl, hr⟩ := Kd.R_reads h
  unfold Rb
  rw [bi_length] at *
  exact ⟨A, c, e, hl, hr⟩
section
variable {P : Program} {ops : Array Oper} {rest : List Oper} {o : Oper} {a : Act} {Q : Exit → Act → World → Prop}
theorem app_byte {S : Nat → Prop} {w0 W : World} (hgd : o.guard = none) (s x : Operand) (t : TypeId)
    (ho : o.op = .call { callee := .builtin .append, args := #[s, x], argTypes := #[t, t] }) (ht : P.underlying t = some (.slice 5))
    (hinfo : (P.info? 5).map (fun i => (i.zero, i.size, i.bytes)) = some (some (.int .u8 0), 1, 1))
    (v : Value) (xs : List Int) (y : Int) (hs : a.eval s = v) (hx : a.eval x = .slice (some ⟨W.heap.size, 0, none⟩) 1 1)
    (HO : Mine W w0.heap.size v xs) (HF : Fr S w0 W) (hl : xs.length + 1 ≤ 140737488355328)
    (h : ∀ v1 w1, Mine w1 w0.heap.size v1 (xs ++ [y]) → Fr S w0 w1 → W.grownBy w1 v.ownBlock → wpList P ops Q rest (a.put o.dst v1) w1) :
    wpList P ops Q (o :: rest) a (W.alloc (.cells #[.int .u8 y] 5)) :=
  Kd.R_append (Kd.int .u8) (w0 := W) w0.heap.size hgd s x t 5 (.int .u8 0) 1 ho ht hinfo rfl (by decide) (by decide) v xs y [.int .u8 y] (fun _ => True) (fun _ => False) hs hx rfl (fun _ hk => hk.elim) (fun _ _ => trivial) HO (Below.refl _ _) HF.size (by omega)
    fun v1 w1 h1 _ h3 _ => h v1 w1 h1 (HF.grown h3 (fun k hk => .inr (HO.base k hk).1)) h3
theorem app_row {S : Nat → Prop} {w0 W : World} (hgd : o.guard = none) (s x : Operand) (t : TypeId)
    (ho : o.op = .call { callee := .builtin .append, args := #[s, x], argTypes := #[t, t] }) (ht : P.underlying t = some (.slice 5))
    (hinfo : (P.info? 5).map (fun i => (i.zero, i.size, i.bytes)) = some (some (.int .u8 0), 1, 1))
    (v : Value) (xs ys : List Int) (A : Option Addr) (m c : Nat) (hs : a.eval s = v) (hx : a.eval x = .slice A m c)
    (HO : Mine W w0.heap.size v xs) (HR : Kd.C (Kd.int .u8) W A m ys) (HF : Fr S w0 W) (hl : xs.length + m ≤ 140737488355328)
    (h : ∀ v1 w1, Mine w1 w0.heap.size v1 (xs ++ ys) → Fr S w0 w1 → W.grownBy w1 v.ownBlock → wpList P ops Q rest (a.put o.dst v1) w1) :
    wpList P ops Q (o :: rest) a W :=
  Kd.R_append_row (Value.int .u8) 0 (w0 := W) w0.heap.size hgd s x t 5 (.int .u8 0) 1 ho ht hinfo rfl (by decide) v xs ys A m c (fun _ => True) hs hx (fun _ _ => trivial) HO HR (Below.refl _ _) HF.size (by omega)
    fun v1 w1 h1 _ h3 _ => h v1 w1 h1 (HF.grown h3 (fun k hk => .inr (HO.base k hk).1)) h3
/-- The same inside a region that draws its order. -/
theorem app_byte_step {S : Nat → Prop} {w0 W : World} {Kc : Act → World → Prop} (hw : Region.wanted o (yielded ops a.tmps) = true) (s x : Operand) (t : TypeId)
    (ho : o.op = .call { callee := .builtin .append, args := #[s, x], argTypes := #[t, t] }) (ht : P.underlying t = some (.slice 5))
    (hinfo : (P.info? 5).map (fun i => (i.zero, i.size, i.bytes)) = some (some (.int .u8 0), 1, 1))
    (v : Value) (xs : List Int) (y : Int) (hs : a.eval s = v) (hx : a.eval x = .slice (some ⟨W.heap.size, 0, none⟩) 1 1)
    (HO : Mine W w0.heap.size v xs) (HF : Fr S w0 W) (hl : xs.length + 1 ≤ 140737488355328)
    (h : ∀ v1 w1, Mine w1 w0.heap.size v1 (xs ++ [y]) → Fr S w0 w1 → W.grownBy w1 v.ownBlock → Kc (a.put o.dst v1) w1) :
    if Region.wanted o (yielded ops a.tmps) = true then Oper.wp P o a (W.alloc (.cells #[.int .u8 y] 5)) Kc Q else Kc (a.put o.dst undef) (W.alloc (.cells #[.int .u8 y] 5)) :=
  Kd.R_append_step (Kd.int .u8) (w0 := W) w0.heap.size hw s x t 5 (.int .u8 0) 1 ho ht hinfo rfl (by decide) (by decide) v xs y [.int .u8 y] (fun _ => True) (fun _ => False) hs hx rfl (fun _ hk => hk.elim) (fun _ _ => trivial) HO (Below.refl _ _) HF.size (by omega)
    fun v1 w1 h1 _ h3 _ => h v1 w1 h1 (HF.grown h3 (fun k hk => .inr (HO.base k hk).1)) h3
theorem app_row_step {S : Nat → Prop} {w0 W : World} {Kc : Act → World → Prop} (hw : Region.wanted o (yielded ops a.tmps) = true) (s x : Operand) (t : TypeId)
    (ho : o.op = .call { callee := .builtin .append, args := #[s, x], argTypes := #[t, t] }) (ht : P.underlying t = some (.slice 5))
    (hinfo : (P.info? 5).map (fun i => (i.zero, i.size, i.bytes)) = some (some (.int .u8 0), 1, 1))
    (v : Value) (xs ys : List Int) (A : Option Addr) (m c : Nat) (hs : a.eval s = v) (hx : a.eval x = .slice A m c)
    (HO : Mine W w0.heap.size v xs) (HR : Kd.C (Kd.int .u8) W A m ys) (HF : Fr S w0 W) (hl : xs.length + m ≤ 140737488355328)
    (h : ∀ v1 w1, Mine w1 w0.heap.size v1 (xs ++ ys) → Fr S w0 w1 → W.grownBy w1 v.ownBlock → Kc (a.put o.dst v1) w1) :
    if Region.wanted o (yielded ops a.tmps) = true then Oper.wp P o a W Kc Q else Kc (a.put o.dst undef) W :=
  Kd.R_append_rows_step (Kd.int .u8) (Rr := (Kd.int .u8).K W) (w0 := W) w0.heap.size hw s x t 5 (.int .u8 0) 1 ho ht hinfo rfl (by decide) (by decide) v xs ys A m c (fun _ => True) (fun _ => False) hs hx HO HR (fun x cs h => h) (fun _ hk => hk.elim) (fun _ _ => trivial) (Below.refl _ _) HF.size (by omega)
    fun v1 w1 h1 _ h3 _ => h v1 w1 h1 (HF.grown h3 (fun k hk => .inr (HO.base k hk).1)) h3
end
/-- make([]byte, 0, m). -/
theorem make0 {P : Program} (t : TypeId) (ht : P.underlying t = some (.slice 5)) (hinfo : (P.info? 5).map (fun i => (i.zero, i.size, i.bytes)) = some (some (.int .u8 0), 1, 1)) (m : Nat) (hm : m ≤ 281474976710656) (W : World) :
    (Instr.makeSlice t (.int .i64 0) (.int .i64 (m : Int))).run P W = .ok (.slice (some ⟨W.heap.size, 0, none⟩) 0 m) (W.alloc (.cells (madeCells #[.int .u8 0] m) 5)) := by
  obtain ⟨i, hi, hzz⟩ := Option.map_eq_some_iff.1 hinfo
  simp only [Prod.mk.injEq] at hzz
  obtain ⟨hz0, hz1, hz2⟩ := hzz
  have := run_make (P := P) W t 5 i (.int .u8 0) ht hi hz0 .i64 .i64 0 (m : Int) (by omega) (by omega) (by rw [hz2]; omega) (by omega)
  rw [hz1] at this
  simpa [Value.cells] using this
theorem mine_made (W : World) (m base : Nat) (hb : base ≤ W.heap.size) (hm : m ≤ maxLen) : Mine (W.alloc (.cells (madeCells #[.int .u8 0] m) 5)) base (.slice (some ⟨W.heap.size, 0, none⟩) 0 m) [] :=
  Kd.R_of_own (enc := Value.int .u8) (World.ownsRow_made W _ m hb hm (by simp [size_madeCells])) (fun _ _ => trivial)
/-- A literal of bytes, read. -/
theorem lit_reads (W : World) (l : List UInt8) (hl : l.length ≤ 9223372036854775807) : Rb (W.alloc (.cells (nums .u8 (bi l)).toArray 5)) (some ⟨W.heap.size, 0, none⟩) l := by
  refine Rb_of_cells hl (fun j hj => ?_)
  rw [World.cell?_alloc_mark]
  simp [nums, bi, List.getElem?_eq_getElem hj]
/-! ### A block that is known whole: bytes -/
/-- Block g holds just these bytes' numbers. -/
def Blk (w : World) (g : Nat) (xs : List Int) : Prop := w.heap[g]? = some (.cells (nums .u8 xs).toArray 5 (0, 0))
section
variable {w w1 : World} {g : Nat} {xs ys : List Int} {S : Nat → Prop}
theorem Blk.lt (h : Blk w g xs) : g < w.heap.size := (Array.getElem?_eq_some_iff.1 h).1
theorem Blk.fr (h : Blk w g xs) (hf : Fr S w w1) (hn : ¬ S g) : Blk w1 g xs := hf.heap h hn
theorem Blk.alloc (h : Blk w g xs) (o : Obj) : Blk (w.alloc o) g xs := h.fr ((Fr.refl No w).alloc o) (fun h => h)
theorem Blk.drew (h : Blk w g xs) : Blk w.drew g xs := h
theorem Blk.drewN (h : Blk w g xs) (n : Nat) : Blk (w.drewN n) g xs := h
theorem Blk.cell (h : Blk w g xs) (j : Nat) (hj : j < xs.length) : w.cell? ⟨g, j, none⟩ = some (.int .u8 xs[j]) := by
  have hb : w.heap[g]? = some (.cells (nums .u8 xs).toArray 5 (0, 0)) := h
  simp [World.cell?, hb, nums, List.getElem?_eq_getElem hj]
theorem Blk.free (h : Blk w g xs) (j : Nat) : w.frozen? ⟨g, j, none⟩ = false := by
  have hb : w.heap[g]? = some (.cells (nums .u8 xs).toArray 5 (0, 0)) := h
  simp [World.frozen?, hb]
theorem Blk.set (h : Blk w g xs) (j : Nat) (x : Int) : Blk (w.setCell ⟨g, j, none⟩ (.int .u8 x)) g (xs.set j x) := by
  have hb : w.heap[g]? = some (.cells (nums .u8 xs).toArray 5 (0, 0)) := h
  have hlt := h.lt
  unfold Blk
  simp only [World.setCell, Array.getElem?_modify, hb, Option.map_some, if_true]
  simp [nums, List.map_set]
theorem Blk.own (h : Blk w g (xs ++ ys)) (hle : (xs ++ ys).length ≤ maxLen) : w.ownsRow g 5 1 (.slice (some ⟨g, 0, none⟩) xs.length (xs ++ ys).length) xs.length (nums .u8 xs) :=
  ⟨by simp [nums], .inr ⟨g, (xs ++ ys).length, (nums .u8 (xs ++ ys)).toArray, rfl, Nat.le_refl _, h, by simp, hle, by simp [nums], by simp [nums]⟩⟩
theorem Blk.R (h : Blk w g (xs ++ ys)) (hle : (xs ++ ys).length ≤ maxLen) : Kd.R (Kd.int .u8) 5 w g (fun k => k = g) (.slice (some ⟨g, 0, none⟩) xs.length (xs ++ ys).length) xs :=
  Kd.R_of_own (enc := Value.int .u8) (h.own hle) (fun k hk => by simpa [Value.ownBlock] using hk.symm)
theorem Blk.reads (h : Blk w g (xs ++ ys)) (hle : (xs ++ ys).length ≤ maxLen) : Kd.C (Kd.int .u8) w (some ⟨g, 0, none⟩) xs.length xs :=
  (Kd.R_reads' (h.R hle)).2.2
end
end Go.Proofs.Ytbaeddppihjgfaa.Sg
