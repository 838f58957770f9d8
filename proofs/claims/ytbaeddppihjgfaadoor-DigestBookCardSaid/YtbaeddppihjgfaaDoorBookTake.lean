/- The walk of take of the law DigestBook. -/
import Derived.StillTailTactics
import Derived.Test.YtbaeddppihjgfaaDoorMgBook
namespace Go.Proofs.YtbaeddppihjgfaaDoor.Sg
open Go Go.RowKit Go.Proofs.YtbaeddppihjgfaaDoorW.PrintWords
set_option linter.unusedVariables false
/-- A book of n lists at p; all that it holds lies in blocks of ok. -/
structure BookW (w : World) (B p n : Nat) (ok : Nat → Prop) (vW vL : Value) (ws : List (List UInt8)) (es : List Slc) : Prop where
  s : BookS w B p n vW vL ws es
  lw : ws.length = n
  le : es.length = n
  okp : ok p ∧ B ≤ p
  okW : ∀ k, vW.ownBlock = some k → ok k
  okL : ∀ k, vL.ownBlock = some k → ok k
  el : ∀ q (h1 : q < es.length) (h2 : q < ws.length), ElemS w es[q] ws[q]
  eok : ∀ q (h1 : q < es.length) ad, es[q].1 = some ad → ok ad.block ∧ ad.block < w.heap.size ∧ ad.block ≠ p ∧ vW.ownBlock ≠ some ad.block ∧ vL.ownBlock ≠ some ad.block
def slcOf : Value → Slc
  | .slice a l c => (a, l, c)
  | _ => (none, 0, 0)
theorem slcOf_mine {w : World} {B : Nat} {v : Value} {l : List UInt8} (h : Mine w B v (bi l)) : slcV (slcOf v) = v := by
  obtain ⟨A, c, rfl, _⟩ := h.reads
  rfl
theorem range_snoc {α : Type} (f : Nat → α) (x : Nat) : (List.range (x + 1)).map f = (List.range x).map f ++ [f x] := by simp [List.range_succ]
theorem BookW.start {w w1 wr : World} {B p n0 n : Nat} {ok : Nat → Prop} {vW vL : Value} {ws : List (List UInt8)} {es : List Slc} {vs : Nat → Value} {M : Nat → List UInt8} (h : BookW w B p n0 ok vW vL ws es) (N : Nat) (hb : BookS w1 B p N vW vL ws es) (hf1 : Fr (fun k => k = p) w w1) (hf : Fr (OwnD n vs) w1 wr) (hr : RowsF wr B n vs M) (hD : ∀ k, OwnD n vs k → ¬ ok k) :
    TakeI w wr B p n0 n N ok vs M vW vL ws es 0 := by
  have hfw : Fr (fun k => ok k ∨ OwnD n vs k) w wr := (hf1.mono (fun k hk => .inl (.inl (by rw [hk]; exact h.okp.1)))).trans hf (fun k hk => .inl (.inr hk))
  refine ⟨hb.fr hf (fun e => hD _ e h.okp.1) (fun k hk e => hD _ e (h.okW k hk)) (fun k hk e => hD _ e (h.okL k hk)), fun k hk => .inl (h.okW k hk), fun k hk => .inl (h.okL k hk), fun q h1 h2 => ?_, fun q h1 ad e => ?_, fun q h1 ad e => .inl (h.eok q h1 ad e).1, hr, hfw⟩
  · exact ((h.el q h1 h2).frS hf1 (fun ad e => (h.eok q h1 ad e).2.2.1)).frS hf (fun ad e e2 => hD _ e2 (h.eok q h1 ad e).1)
  · have h3 := h.eok q h1 ad e
    have := hfw.size
    exact ⟨by omega, h3.2.2⟩
theorem elem_of_mine {w : World} {B : Nat} {v : Value} {l : List UInt8} (h : Mine w B v (bi l)) : ElemS w (slcOf v) l := by
  obtain ⟨A, c, rfl, hc, hr⟩ := h.reads
  exact ⟨rfl, hc, hr⟩
theorem litS (W : World) (l : List UInt8) : KS.C (W.alloc (.cells #[.string ⟨l.toArray⟩] 9)) (some ⟨W.heap.size, 0, none⟩) 1 [l] := by
  refine Kd.C_of_reads (d := l) ⟨rfl, by decide, fun _ => ⟨_, rfl, fun j hj => ?_⟩⟩
  obtain rfl : j = 0 := by omega
  rw [add_plain, World.cell?_alloc_mark]
  simp
theorem lit1 (W : World) (s : Slc) : KV.C (W.alloc (.cells #[slcV s] 22)) (some ⟨W.heap.size, 0, none⟩) 1 [s] := by
  refine Kd.C_of_reads (d := s) ⟨rfl, by decide, fun _ => ⟨_, rfl, fun j hj => ?_⟩⟩
  obtain rfl : j = 0 := by omega
  rw [add_plain, World.cell?_alloc_mark]
  simp
theorem Kept1.after {w w1 w2 : World} {v v1 : Value} {n : Nat} (hf : Fr No w w1) (h : Kept1 w1 w2 v v1 n) : Kept1 w w2 v v1 n :=
  ⟨(hf.mono (fun _ h => h.elim)).trans h.fr (fun k hk => .inl hk), h.hat.imp id (fun ⟨k, e, hk⟩ => ⟨k, e, Nat.le_trans hf.size hk⟩), fun b u ys hu he hl => h.old b u ys (hu.fr hf (fun _ _ => id)) he hl, (BySt.of_fr hf).trans h.byt⟩
/-- A list that came of an append to row vz: bytes, beside the book. -/
structure Gn (w wx : World) (p : Nat) (vW vL vz g : Value) (s : Slc) : Prop where
  eq : g = slcV s
  le : s.2.1 ≤ s.2.2
  rd : RdE wx s.1 s.2.1
  at_ : ∀ ad, s.1 = some ad → (ad.block < wx.heap.size ∧ ad.block ≠ p ∧ vW.ownBlock ≠ some ad.block ∧ vL.ownBlock ≠ some ad.block) ∧ (w.heap.size ≤ ad.block ∨ vz.ownBlock = some ad.block)
theorem Gn.by_ {w wx wy : World} {p : Nat} {vW vL vz g : Value} {s : Slc} (h : Gn w wx p vW vL vz g s) (hb : BySt wx wy) (hs : wx.heap.size ≤ wy.heap.size) : Gn w wy p vW vL vz g s :=
  ⟨h.eq, h.le, h.rd.by_ hb, fun ad e => by have h3 := h.at_ ad e; exact ⟨⟨by omega, h3.1.2⟩, h3.2⟩⟩
theorem Gn.frS {S : Nat → Prop} {w wx wy : World} {p : Nat} {vW vL vW' vL' vz g : Value} {s : Slc} (h : Gn w wx p vW vL vz g s) (hf : Fr S wx wy) (hS : ∀ ad, s.1 = some ad → ¬ S ad.block) (hW : ∀ ad, s.1 = some ad → vW'.ownBlock ≠ some ad.block) (hL : ∀ ad, s.1 = some ad → vL'.ownBlock ≠ some ad.block) : Gn w wy p vW' vL' vz g s :=
  ⟨h.eq, h.le, by obtain ⟨l, e, hr⟩ := h.rd; exact ⟨l, e, hr.frS hf hS⟩, fun ad e => by have h3 := h.at_ ad e; have := hf.size; exact ⟨⟨by omega, h3.1.2.1, hW ad e, hL ad e⟩, h3.2⟩⟩
theorem Gn.conv {w wx : World} {p : Nat} {vW vL vz g : Value} {s : Slc} (h : Gn w wx p vW vL vz g s) : ∃ l, ElemS wx s l ∧ ∀ W, Fr No wx W → (convert 22 9 g).run Tryd.prog W = .ok (.string ⟨l.toArray⟩) W := by
  obtain ⟨l, e, hr⟩ := h.rd
  refine ⟨l, ⟨e.symm, by rw [e]; exact h.le, hr⟩, fun W hf => ?_⟩
  have h1 := Kd.C_string (P := Tryd.prog) (c := s.2.2) Tryd.underlying22 Tryd.underlying5 Tryd.underlying9 (C_fr hr hf)
  rw [str_bi, e] at h1
  rw [h.eq]
  exact h1
theorem Gn.mk_ {w wr wx : World} {B p n0 n N : Nat} {ok : Nat → Prop} {vs : Nat → Value} {M : Nat → List UInt8} {vW vL g : Value} {ws : List (List UInt8)} {es : List Slc} {i m : Nat} {l : List UInt8} (h : TakeI w wx B p n0 n N ok vs M vW vL ws es i) (hm : Mine wx B g (bi l)) (hk : Kept1 wr wx (vs i) g m) (hz : w.heap.size ≤ wr.heap.size) :
    Gn w wx p vW vL (vs i) g (slcOf g) := by
  have ha := h.s.apart hm
  refine ⟨(slcOf_mine hm).symm, ?_, ?_, fun ad e => ?_⟩
  · obtain ⟨A, c, rfl, hc, hr⟩ := hm.reads
    exact hc
  · obtain ⟨A, c, rfl, hc, hr⟩ := hm.reads
    exact ⟨l, rfl, hr⟩
  · have ho : g.ownBlock = some ad.block := by
      rw [← slcOf_mine hm]
      unfold slcV
      rw [e]
      rfl
    refine ⟨ha _ ho, ?_⟩
    rcases hk.hat with e2 | ⟨k, e2, hk2⟩
    · right; rw [← e2]; exact ho
    · left; rw [ho] at e2; injection e2 with e2; omega
theorem TakeI.grow_calls {w wr : World} {B p n0 n N : Nat} {ok : Nat → Prop} {vs : Nat → Value} {M : Nat → List UInt8} {vW vL : Value} {ws : List (List UInt8)} {es : List Slc} {i : Nat} (h : TakeI w wr B p n0 n N ok vs M vW vL ws es i) (hi : i < n) (hB : B ≤ w.heap.size) (hM : (M i).length ≤ 67108864) (hD : ∀ k, OwnD n vs k → ¬ ok k) (hlt : ∀ k, OwnD n vs k → k < w.heap.size)
    (hvi : ∀ (h1 : n0 + i < es.length), slcV es[n0 + i] = vs i) (hwi : ∀ (h2 : n0 + i < ws.length), ws[n0 + i] = M i)
    {W2 : World} (hf : Fr No wr W2) {D : Option Addr} {cd q : Nat} {l : List UInt8} (hr : Rb W2 D l) (hn : ∀ ad, D = some ad → wr.heap.size ≤ ad.block) (hc : q ≤ cd) (hq : l.length = q) (hl : q ≤ 1000) :
    Calls Tryd.prog 75 #[vs i, .slice D q cd] W2 fun e w' => ∃ g, e = .returned g ∧ TakeI w w' B p n0 n N ok vs M vW vL ws es i ∧ Gn w w' p vW vL (vs i) g (slcOf g) ∧ BySt wr w' ∧ wr.heap.size ≤ w'.heap.size := by
  subst hq
  have hz := h.fr.size
  have hz2 := hf.size
  refine (grown_calls W2 B (vs i) (M i) l D cd ((h.rows.mine i hi).fr hf (fun _ _ => id)) hr (fun ad e e2 => ?_) (by omega) hc (by omega)).mono ?_
  · have := hlt _ ⟨i, hi, e2⟩
    have := hn ad e
    omega
  · rintro e w3 ⟨g, rfl, hm, hk⟩
    have hk2 := hk.after hf
    have hT := h.grown hi hk2 (Nat.le_refl _) hD hlt hvi hwi
    exact ⟨g, rfl, hT, Gn.mk_ hT hm hk2 hz, hk2.byt, hk2.fr.size⟩
theorem marked_at (n c : Nat) (W : World) (hn : n ≤ 1099511627776) (hc : c ≤ 1000) : Calls Tryd.prog 74 #[.int .i64 (n : Int), .int .i64 (c : Int)] W fun e w' => ∃ D cd, e = .returned (.slice D c cd) ∧ Rb w' D (markL n c) ∧ c ≤ cd ∧ Fr No W w' ∧ ∀ ad, D = some ad → W.heap.size ≤ ad.block := by
  refine (marked_calls n c W hn (by omega)).mono ?_
  rintro e w' ⟨v, rfl, hm, hf⟩
  obtain ⟨D, cd, rfl, hl, hr⟩ := hm.reads
  rw [markL_length] at hl
  have hb := fun ad (e : D = some ad) => (hm.base ad.block (by rw [e]; rfl)).1
  rw [markL_length]
  exact ⟨D, cd, rfl, hr, hl, hf, hb⟩
theorem lit3 (W : World) (s t u : Slc) : KV.C (W.alloc (.cells #[slcV s, slcV t, slcV u] 22)) (some ⟨W.heap.size, 0, none⟩) 3 [s, t, u] := by
  refine Kd.C_of_reads (d := s) ⟨rfl, by decide, fun _ => ⟨_, rfl, fun j hj => ?_⟩⟩
  rw [add_plain, World.cell?_alloc_mark]
  have : j = 0 ∨ j = 1 ∨ j = 2 := by omega
  rcases this with rfl | rfl | rfl <;> simp
theorem litS3 (W : World) (s t u : List UInt8) : KS.C (W.alloc (.cells #[.string ⟨s.toArray⟩, .string ⟨t.toArray⟩, .string ⟨u.toArray⟩] 9)) (some ⟨W.heap.size, 0, none⟩) 3 [s, t, u] := by
  refine Kd.C_of_reads (d := s) ⟨rfl, by decide, fun _ => ⟨_, rfl, fun j hj => ?_⟩⟩
  rw [add_plain, World.cell?_alloc_mark]
  have : j = 0 ∨ j = 1 ∨ j = 2 := by omega
  rcases this with rfl | rfl | rfl <;> simp
theorem litS3_of {W : World} {g : Nat} {s t u : List UInt8} (h : W.heap[g]? = some (.cells #[.string ⟨s.toArray⟩, .string ⟨t.toArray⟩, .string ⟨u.toArray⟩] 9 (0, 0))) : KS.C W (some ⟨g, 0, none⟩) 3 [s, t, u] := by
  refine Kd.C_of_reads (d := s) ⟨rfl, by decide, fun _ => ⟨_, rfl, fun j hj => ?_⟩⟩
  rw [add_plain, blk_cell h]
  have : j = 0 ∨ j = 1 ∨ j = 2 := by omega
  rcases this with rfl | rfl | rfl <;> simp
theorem app_scalar {α : Type} {enc : α → Value} {h1 : ∀ x, (enc x).oneCell' = true} {P : Program} {ops : Array Oper} {rest : List Oper} {o : Oper} {a : Act} {Q : Exit → Act → World → Prop} {W : World} (d : α) (B : Nat) (hgd : o.guard = none) (s x : Operand) (t e : TypeId) (z : Value) (bytes : Nat)
    (ho : o.op = .call { callee := .builtin .append, args := #[s, x], argTypes := #[t, t] }) (ht : P.underlying t = some (.slice e))
    (hinfo : (P.info? e).map (fun i => (i.zero, i.size, i.bytes)) = some (some z, 1, bytes)) (hz : z.cells.size = 1) (hby : 0 < bytes)
    (v : Value) (xs ys : List α) (A : Option Addr) (m c : Nat) (hs : a.eval s = v) (hx : a.eval x = .slice A m c)
    (HO : (Kd.scalar enc h1).R e W B (fun _ => True) v xs) (HR : (Kd.scalar enc h1).C W A m ys) (hB : B ≤ W.heap.size) (hl : (xs.length + m) * bytes ≤ 140737488355328)
    (h : ∀ v1 w1, (Kd.scalar enc h1).R e w1 B (fun _ => True) v1 (xs ++ ys) → Fr (fun k => v.ownBlock = some k) W w1 → (v1.ownBlock = v.ownBlock ∨ ∃ b, v1.ownBlock = some b ∧ W.heap.size ≤ b) → wpList P ops Q rest (a.put o.dst v1) w1) :
    wpList P ops Q (o :: rest) a W :=
  Kd.R_append_row enc d (w0 := W) B hgd s x t e z bytes ho ht hinfo hz hby v xs ys A m c (fun _ => True) hs hx (fun _ _ => trivial) HO HR (Below.refl _ _) hB hl
    fun v1 w1 h1 _ h3 h4 => h v1 w1 h1 ((Fr.refl _ W).grown h3 (fun k hk => .inl hk)) h4
theorem repl_getD (n i : Nat) : (Array.replicate n false).getD i false = false := by
  rw [Array.getD_eq_getD_getElem?, Array.getElem?_replicate]
  split <;> rfl
theorem eval_slot {b : Act} {k : Nat} {v : Value} (h : b.tmps[k]?.getD undef = v) : b.eval (.tmp k) = v := by
  show b.tmps.getD k undef = v
  rw [Array.getD_eq_getD_getElem?]; exact h
/-- A drawn region with an append (operation c, slot s) behind new memory, and a store behind it (operation m): the world. -/
structure AppF (c m s : Nat) (w : World) (P : Value → World → Prop) (R : World → Prop) (listed : Array Bool) (vs : Nat → Value) (W : World) : Prop where
  a : listed.getD c false = false → Fr No w W
  b : listed.getD c false = true → listed.getD m false = false → P (vs s) W
  d : listed.getD m false = true → R W
section
variable {c m s n : Nat} {w W W' : World} {P : Value → World → Prop} {R : World → Prop} {listed : Array Bool} {vs : Nat → Value}
theorem AppF.start (n : Nat) (vs : Nat → Value) (h : Fr No w W) : AppF c m s w P R (Array.replicate n false) vs W := ⟨fun _ => h, (fun h => by rw [repl_getD] at h; cases h), (fun h => by rw [repl_getD] at h; cases h)⟩
theorem AppF.keep (h : AppF c m s w P R listed vs W) (i t : Nat) (v : Value) (hi : (i ≠ c ∧ i ≠ m) ∧ s ≠ t) : AppF c m s w P R (listed.setIfInBounds i true) (fun k => if k = t then v else vs k) W := by
  refine ⟨fun h1 => ?_, fun h1 h2 => ?_, fun h1 => ?_⟩
  · rw [getD_set_ne false hi.1.1] at h1; exact h.a h1
  · rw [getD_set_ne false hi.1.1] at h1
    rw [getD_set_ne false hi.1.2] at h2
    (try dsimp only)
    rw [if_neg hi.2]
    exact h.b h1 h2
  · rw [getD_set_ne false hi.1.2] at h1; exact h.d h1
theorem AppF.keepF (h : AppF c m s w P R listed vs W) (hc : listed.getD c false = false) (hm : listed.getD m false = false) (i t : Nat) (v : Value) (hi : (i ≠ c ∧ i ≠ m) ∧ s ≠ t) (hf : Fr No W W') : AppF c m s w P R (listed.setIfInBounds i true) (fun k => if k = t then v else vs k) W' := by
  refine ⟨fun h1 => (h.a hc).then_ hf, fun h1 h2 => ?_, fun h1 => ?_⟩
  · rw [getD_set_ne false hi.1.1, hc] at h1; cases h1
  · rw [getD_set_ne false hi.1.2, hm] at h1; cases h1
theorem AppF.app (hn : listed.size = n) (hc : c < n) (hcm : c ≠ m) (hm : listed.getD m false = false) (v : Value) (hp : P v W') : AppF c m s w P R (listed.setIfInBounds c true) (fun k => if k = s then v else vs k) W' := by
  have hs : (listed.setIfInBounds c true).getD c false = true := by simp [hn, hc]
  refine ⟨fun h1 => absurd (hs.symm.trans h1) (by decide), fun _ _ => ?_, fun h1 => ?_⟩
  · (try dsimp only)
    rw [if_pos rfl]; exact hp
  · rw [getD_set_ne false hcm, hm] at h1; cases h1
theorem AppF.fin (hn : listed.size = n) (hm : m < n) (hcm : m ≠ c) (hc : listed.getD c false = true) (t : Nat) (v : Value) (hr : R W') : AppF c m s w P R (listed.setIfInBounds m true) (fun k => if k = t then v else vs k) W' := by
  have hs : (listed.setIfInBounds m true).getD m false = true := by simp [hn, hm]
  exact ⟨(fun h1 => by rw [getD_set_ne false hcm, hc] at h1; cases h1), fun _ h2 => absurd (hs.symm.trans h2) (by decide), fun _ => hr⟩
end
theorem app_scalar_at {α : Type} {enc : α → Value} {h1 : ∀ x, (enc x).oneCell' = true} {P : Program} {o : Oper} {a : Act} {Q : Exit → Act → World → Prop} {W : World} {K : Act → World → Prop} (B : Nat) (hgd : o.guard = none) (s x : Operand) (t e : TypeId) (z : Value) (bytes : Nat)
    (ho : o.op = .call { callee := .builtin .append, args := #[s, x], argTypes := #[t, t] }) (ht : P.underlying t = some (.slice e))
    (hinfo : (P.info? e).map (fun i => (i.zero, i.size, i.bytes)) = some (some z, 1, bytes)) (hz : z.cells.size = 1) (hby : 0 < bytes)
    (v : Value) (xs ys : List α) (A : Option Addr) (m c : Nat) (hs : a.eval s = v) (hx : a.eval x = .slice A m c)
    (HO : (Kd.scalar enc h1).R e W B (fun _ => True) v xs) (HR : (Kd.scalar enc h1).C W A m ys) (hB : B ≤ W.heap.size) (hl : (xs.length + m) * bytes ≤ 140737488355328)
    (h : ∀ v1 w1, (Kd.scalar enc h1).R e w1 B (fun _ => True) v1 (xs ++ ys) → Fr (fun k => v.ownBlock = some k) W w1 → (v1.ownBlock = v.ownBlock ∨ ∃ b, v1.ownBlock = some b ∧ W.heap.size ≤ b) → K (a.put o.dst v1) w1) : o.wp P a W K Q := by
  have hw : Region.wanted o (yielded #[] a.tmps) = true := by simp [Region.wanted, hgd]
  have := app_scalar_step (enc := enc) (h1 := h1) (ops := #[]) (P := P) (Q := Q) (Kc := K) (a := a) (o := o) B hw s x t e z bytes ho ht hinfo hz hby v xs ys A m c hs hx HO HR hB hl h
  rwa [if_pos hw] at this
/-- What region 25 of take yields. -/
def tkSl : Nat → Nat
  | 15 => 9999
  | i => 153 + i
def tkF (hz p nz cY : Nat) (Y D1 D2 D3 : Option Addr) (m1 m2 m3 c1 c2 c3 : Nat) (l1 l2 l3 : List UInt8) : Nat → Value → World → Prop
  | 0, v, _ => v = .pointer (some ⟨p, 0, none⟩)
  | 1, v, _ => v = .pointer (some ⟨p, 0, none⟩)
  | 2, v, _ => v = .pointer (some ⟨p, 0, none⟩)
  | 3, v, _ => v = .pointer (some ⟨p, 1, none⟩)
  | 4, v, _ => v = .slice Y nz cY
  | 5, v, _ => v = .slice D1 m1 c1
  | 6, v, _ => v = .string ⟨l1.toArray⟩
  | 7, v, _ => v = .slice D2 m2 c2
  | 8, v, _ => v = .string ⟨l2.toArray⟩
  | 9, v, _ => v = .slice D3 m3 c3
  | 10, v, _ => v = .string ⟨l3.toArray⟩
  | 11, v, W => ∃ g, v = .slice (some ⟨g, 0, none⟩) 3 3 ∧ hz ≤ g ∧ W.heap[g]? = some (.cells #[.string ⟨l1.toArray⟩, .string ⟨l2.toArray⟩, .string ⟨l3.toArray⟩] 9 (0, 0))
  | 13, v, _ => v = .pointer (some ⟨p, 0, none⟩)
  | 14, v, _ => v = .pointer (some ⟨p, 1, none⟩)
  | _, _, _ => True
theorem tkF_fr {S : Nat → Prop} {hz p nz cY : Nat} {Y D1 D2 D3 : Option Addr} {m1 m2 m3 c1 c2 c3 : Nat} {l1 l2 l3 : List UInt8} {j : Nat} {u : Value} {W W' : World} (h : tkF hz p nz cY Y D1 D2 D3 m1 m2 m3 c1 c2 c3 l1 l2 l3 j u W) (hf : Fr S W W') (hS : ∀ k, S k → k < hz) : tkF hz p nz cY Y D1 D2 D3 m1 m2 m3 c1 c2 c3 l1 l2 l3 j u W' := by
  match j, h with
  | 0, h => exact h
  | 1, h => exact h
  | 2, h => exact h
  | 3, h => exact h
  | 4, h => exact h
  | 5, h => exact h
  | 6, h => exact h
  | 7, h => exact h
  | 8, h => exact h
  | 9, h => exact h
  | 10, h => exact h
  | 11, h =>
    obtain ⟨g, e, hg, hc⟩ := h
    exact ⟨g, e, hg, hf.heap hc (fun h2 => by have := hS _ h2; omega)⟩
  | 12, h => trivial
  | 13, h => exact h
  | 14, h => exact h
  | k + 15, h => trivial
/-- The new list of strings, and what changed; and the store of it. -/
def TkP (B nz : Nat) (wf : World) (xs : List (List UInt8)) (vY v : Value) (W : World) : Prop := ∃ X cX W0, v = .slice X nz cX ∧ Fr No wf W0 ∧ Kd.R KS 9 W B (fun _ => True) v xs ∧ Fr (fun k => vY.ownBlock = some k) W0 W ∧ (v.ownBlock = vY.ownBlock ∨ ∃ b, v.ownBlock = some b ∧ W0.heap.size ≤ b)
def TkR (B nz : Nat) (wf : World) (xs : List (List UInt8)) (vY : Value) (p : Nat) (W : World) : Prop := ∃ v W0, TkP B nz wf xs vY v W0 ∧ W = W0.setCell ⟨p, 1, none⟩ v
set_option maxRecDepth 100000 in
set_option maxHeartbeats 10000000 in
theorem take_calls (w : World) (B p n0 n : Nat) (ok : Nat → Prop) (vW vL : Value) (ws : List (List UInt8)) (es : List Slc) (hb : BookW w B p n0 ok vW vL ws es) (A : Option Addr) (c : Nat) (vs : Nat → Value) (rs : Nat → List UInt8) (hr : RowsF w B n vs rs)
    (hA : ∀ i, i < n → ∃ ad, A = some ad ∧ w.cell? (ad.add i) = some (vs i)) (hAf : ∀ ad, A = some ad → ¬ ok ad.block ∧ ¬ OwnD n vs ad.block) (hD : ∀ k, OwnD n vs k → ¬ ok k) (hn : n ≤ 100000) (hn0 : n0 ≤ 1000000000) (hl : ∀ j, (rs j).length ≤ 67108864) (hB : B ≤ w.heap.size) :
    Calls Tryd.prog 51 #[.pointer (some ⟨p, 0, none⟩), .slice A n c] w fun e w' => e = .returned (.bool true) ∧ (∃ vW' vL' ws' es', BookW w' B p (n0 + 4 * n) (fun k => ok k ∨ OwnD n vs k ∨ w.heap.size ≤ k) vW' vL' ws' es') ∧ Fr (fun k => ok k ∨ OwnD n vs k) w w' := by
  obtain ⟨c0, -, -⟩ := hb.s.cell
  have hfz := blk_frozen hb.s.box 0
  obtain ⟨w1, hw1⟩ : ∃ w1, w1 = w.setCell ⟨p, 0, none⟩ (.int .i64 ((n0 + n : Nat) : Int)) := ⟨_, rfl⟩
  have hf1 : Fr (fun k => k = p) w w1 := by rw [hw1]; exact (Fr.refl (fun b => b = p) w).setCell (.inl rfl) _
  have HB1 : Aside0 (BookS w1 B p (n0 + n) vW vL ws es) := ⟨by rw [hw1]; exact hb.s.putN (n0 + n)⟩
  have HF1 := Aside0.mk hf1
  have HR1 : Aside0 (RowsF w1 B n vs rs) := ⟨hr.fr hf1 (fun k hk e => hD k hk (e ▸ hb.okp.1))⟩
  have HA : Aside0 (∀ wr, Fr (OwnD n vs) w1 wr → ∀ i, i < n → ∃ ad, A = some ad ∧ wr.cell? (ad.add i) = some (vs i)) := ⟨fun wr hf i hi => by
    obtain ⟨ad, e, hc⟩ := hA i hi
    exact ⟨ad, e, hf.cell (hf1.cell hc (by rw [blk_of_add]; exact fun e2 => (hAf ad e).1 (e2 ▸ hb.okp.1))) (by rw [blk_of_add]; exact (hAf ad e).2)⟩⟩
  obtain ⟨M, hM⟩ : ∃ M : Nat → List UInt8, M = fun j => markL (n0 + j) (rs j).length := ⟨_, rfl⟩
  have HML : Aside0 (∀ j, (M j).length = (rs j).length) := ⟨fun j => by rw [hM]; exact markL_length _ _⟩
  have HMB : Aside0 (∀ j k (h : k < (M j).length), (M j)[k] = mkB (n0 + j) k) := ⟨fun j k h => by subst hM; simp [markL]⟩
  have HMD := Aside0.mk hM
  clear hM
  have HRL := Aside0.mk hl
  have HW1 : Aside0 (w.setCell ⟨p, 0, none⟩ (.int .i64 ((n0 : Int) + (n : Int))) = w1) := ⟨by rw [hw1]; push_cast; rfl⟩
  have HBW := Aside0.mk hb; have HR := Aside0.mk hr; have HA0 := Aside0.mk hA; have HAf := Aside0.mk hAf; have HD := Aside0.mk hD
  clear hb hr hA hAf hD hl hf1 hw1
  go_enter Tryd.func51, Tryd.ntmps51
  go_wp2_with fail
  rw [HW1.out]
  clear c0 hfz HW1
  go_loopw [6] (fun i wr => ∃ x : Nat, x ≤ n ∧ i = .int .i64 x ∧ Aside0 (RowsF wr B n vs (rowsAt M rs x 0)) ∧ Aside0 (Fr (OwnD n vs) w1 wr)) (fun i _ => n - (intOf i).toNat)
  case atStart => exact ⟨0, by omega, rfl, ⟨HR1.out.congr (fun j _ => (rowsAt_zero M rs j).symm)⟩, ⟨Fr.refl _ _⟩⟩
  case round =>
    clear HR1
    obtain ⟨x, hx, rfl, HRX, HFX⟩ := hrel
    by_cases hlt : x < n
    · have hxi : (x : Int) < (n : Int) := by omega
      obtain ⟨Ax, cx, hvx, -, -⟩ := (HRX.out.mine x hlt).reads
      rw [rowsAt_length M rs x 0 x HML.out (by omega)] at hvx
      have HVX := Aside0.mk hvx
      obtain ⟨len, hlen⟩ : ∃ len, (rs x).length = len := ⟨_, rfl⟩
      have HLEN := Aside0.mk hlen
      have hlm : len ≤ 67108864 := by rw [← hlen]; exact HRL.out x
      rw [hlen] at hvx HVX
      clear hvx hlen
      go_wp2_with fail
      go_loopw [7] (fun i wr => ∃ k : Nat, k ≤ len ∧ i = .int .i64 k ∧ Aside0 (RowsF wr B n vs (rowsAt M rs x k)) ∧ Aside0 (Fr (OwnD n vs) w1 wr)) (fun i _ => len - (intOf i).toNat)
      case atStart => exact ⟨0, by omega, rfl, HRX, HFX⟩
      case round =>
        clear HRX HFX
        obtain ⟨k, hk, rfl, HRX, HFX⟩ := hrel
        obtain ⟨ad, hAe, hcx⟩ := HA.out _ HFX.out x hlt
        subst hAe
        rw [HVX.out] at hcx
        by_cases hkl : k < len
        · have hki : (k : Int) < (len : Int) := by omega
          obtain ⟨g, cg, hvg, hgl, hgd, -⟩ := HRX.out.form x hlt (by rw [rowsAt_length M rs x k x HML.out (by rw [HLEN.out]; omega), HLEN.out]; omega)
          rw [HVX.out] at hvg
          obtain rfl : Ax = some ⟨g, 0, none⟩ := by injection hvg
          have hkm : k < (M x).length := by rw [HML.out, HLEN.out]; exact hkl
          obtain ⟨⟨u, hcu⟩, hfu, hput⟩ := HRX.out.put x hlt k (by rw [rowsAt_length M rs x k x HML.out (by rw [HLEN.out]; omega), HLEN.out]; exact hkl) (by rw [HVX.out, rowsAt_length M rs x k x HML.out (by rw [HLEN.out]; omega), HLEN.out]) ((M x)[k]'hkm)
          have HPUT : Aside0 (RowsF (wr.setCell ⟨g, k, none⟩ (.int .u8 (((M x)[k]'hkm).toNat : Int))) B n vs (rowsAt M rs x (k + 1))) := ⟨hput.congr (fun j _ => rowsAt_set M rs x k j (HML.out x) (by rw [HLEN.out]; exact hkl) hkm)⟩
          have HFP : Aside0 (Fr (OwnD n vs) w1 (wr.setCell ⟨g, k, none⟩ (.int .u8 (((M x)[k]'hkm).toNat : Int)))) := ⟨HFX.out.setCell (.inl hgd) _⟩
          have HMK := Aside0.mk (HMB.out x k hkm)
          clear hput hvg hgl hgd
          have HMC : Aside0 (∀ W, Calls Tryd.prog 73 #[.int .i64 (IntKind.i64.wrap ((n0 : Int) + (x : Int))), .int .i64 (k : Int)] W fun e w'' => e = .returned (.int .u8 (((M x)[k]'hkm).toNat : Int)) ∧ w'' = W) := ⟨fun W => by
            rw [IntWalk.i64_in ((n0 : Int) + (x : Int)) (by omega), HMB.out x k hkm]
            exact (mark_calls (n0 + x) k W (by omega) (by omega)).mono fun _ _ ⟨he, hw⟩ => ⟨he, hw.symm⟩⟩
          clear HMK
          generalize (M x)[k]'hkm = y at *
          go_wp2_with fail
          go_still_tail 11, (by kernel_rfl)
          still_call (HMC.out _)
          repeat still_step
          refine wpStill_nil ?_
          go_wp2_with fail
          exact ⟨⟨k + 1, by omega, by go_num, ⟨HPUT.out.fr (Fr.refl No _).drew (fun _ _ => id)⟩, ⟨HFP.out.then_ (Fr.refl No _).drew⟩⟩, by simp [intOf]; omega⟩
        · obtain rfl : k = len := by omega
          have HRN : Aside0 (RowsF wr B n vs (rowsAt M rs (x + 1) 0)) := ⟨HRX.out.congr (fun j _ => by rw [← HLEN.out]; exact rowsAt_next M rs x j (HML.out x))⟩
          go_wp2_with fail
          exact ⟨⟨x + 1, by omega, by go_num, HRN, HFX⟩, by simp [intOf]; omega⟩
    · obtain rfl : x = n := by omega
      have HI0 : Aside0 (∃ vW' vL', TakeI w wr B p n0 x (n0 + x) ok vs M vW' vL' (ws ++ (List.range 0).map M) (es ++ (List.range 0).map (fun j => slcOf (vs j))) 0) := ⟨vW, vL, by
        rw [List.range_zero, List.map_nil, List.append_nil, List.map_nil, List.append_nil]
        exact HBW.out.start (n0 + x) HB1.out HF1.out HFX.out (HRX.out.congr (fun j hj => by unfold rowsAt; rw [if_pos hj])) HD.out⟩
      have HOKP := Aside0.mk HBW.out.okp.1
      have HBP := Aside0.mk HBW.out.okp.2
      have HLW := Aside0.mk HBW.out.lw; have HLE := Aside0.mk HBW.out.le
      have HSL : Aside0 (∀ j, j < x → slcV (slcOf (vs j)) = vs j) := ⟨fun j hj => slcOf_mine (HR.out.mine j hj)⟩
      have HA2 : Aside0 (∀ W, Fr (fun k => ok k ∨ OwnD x vs k) w W → ∀ i, i < x → ∃ ad, A = some ad ∧ W.cell? (ad.add i) = some (vs i)) := ⟨fun W hf i hi => by
        obtain ⟨ad, e, hc⟩ := HA0.out i hi
        exact ⟨ad, e, hf.cell hc (by rw [blk_of_add]; exact fun h => h.elim (HAf.out ad e).1 (HAf.out ad e).2)⟩⟩
      clear HRX HFX HB1 HF1 HA HBW
      go_wp2_with fail
      go_loopw [8] (fun i wr => ∃ y : Nat, y ≤ x ∧ i = .int .i64 y ∧ Aside0 (∃ vW' vL', TakeI w wr B p n0 x (n0 + x) ok vs M vW' vL' (ws ++ (List.range y).map M) (es ++ (List.range y).map (fun j => slcOf (vs j))) 0)) (fun i _ => x - (intOf i).toNat)
      case atStart => exact ⟨0, by omega, rfl, HI0⟩
      case round =>
        clear HI0
        obtain ⟨y, hy, rfl, HI⟩ := hrel
        by_cases hyl : y < x
        · have hyi : (y : Int) < (x : Int) := by omega
          obtain ⟨vW2, vL2, hI⟩ := HI.out
          obtain ⟨ad, hAe, hca⟩ := HA2.out wr hI.fr y hyl
          subst hAe
          obtain ⟨d0, d1, d2⟩ := hI.s.cell
          obtain ⟨X, cX, hvL, hcX, hrX⟩ := Kd.R_reads hI.s.lists
          rw [← HSL.out y hyl] at hca
          obtain ⟨sa, sn, sc, hse⟩ : ∃ sa sn sc, slcOf (vs y) = (sa, sn, sc) := ⟨_, _, _, rfl⟩
          rw [hse] at hca
          unfold slcV at hca
          have HSE := Aside0.mk hse
          clear hse
          have HLN : Aside0 ((es ++ (List.range y).map (fun j => slcOf (vs j))).length = n0 + y ∧ (ws ++ (List.range y).map M).length = n0 + y) := ⟨by simp [HLE.out, HLW.out]⟩
          have hpz := blk_frozen hI.s.box 2
          have HR0 : Aside0 (Kd.R KV 22 (wr.drew.alloc (.cells #[.slice sa sn sc] 22)) B (fun _ => True) vL2 (es ++ (List.range y).map (fun j => slcOf (vs j)))) := ⟨scalar_fr hI.s.lists ((Fr.refl No wr).drew.alloc _) (fun _ _ => id)⟩
          have HL1 := Aside0.mk (lit1 wr.drew (sa, sn, sc))
          have HBZ : Aside0 (B ≤ (wr.drew.alloc (.cells #[.slice sa sn sc] 22)).heap.size) := ⟨by have := hI.fr.size; simp; omega⟩
          have HT := Aside0.mk hI
          have HTY : Aside0 (vL2.ownBlock ≠ some p) := ⟨fun e => Kd.R_ne hI.s.lists hI.s.box (by decide) e.symm⟩
          have HBX := Aside0.mk hI.s.box
          have HVL := Aside0.mk hvL
          rw [hvL, HLN.out.1] at d2 HR0
          have HLL : Aside0 (((es ++ (List.range y).map (fun j => slcOf (vs j))).length + 1) * 24 ≤ 140737488355328) := ⟨by rw [HLN.out.1]; omega⟩
          have HKP : Aside0 (∀ w1, Fr (fun k => (Value.slice X (n0 + y) cX).ownBlock = some k) (wr.drew.alloc (.cells #[.slice sa sn sc] 22)) w1 → w1.cell? ⟨p, 2, none⟩ = some (.slice X (n0 + y) cX) ∧ w1.frozen? ⟨p, 2, none⟩ = false) := ⟨fun w1 hf => by
            have h2 := hf.heap (((Fr.refl No wr).drew.alloc (.cells #[.slice sa sn sc] 22)).heap hI.s.box id) (by have h9 := HTY.out; rw [hvL, HLN.out.1] at h9; exact h9)
            exact ⟨by rw [blk_cell h2, hvL, HLN.out.1]; rfl, blk_frozen h2 2⟩⟩
          clear hI hrX hcX d1 d0 hvL
          have HAD : Aside0 (∀ (v1 : Value) (w1 : World), Kd.R KV 22 w1 B (fun _ => True) v1 ((es ++ (List.range y).map (fun j => slcOf (vs j))) ++ [(sa, sn, sc)]) → Fr (fun k => (Value.slice X (n0 + y) cX).ownBlock = some k) (wr.drew.alloc (.cells #[.slice sa sn sc] 22)) w1 → (v1.ownBlock = (Value.slice X (n0 + y) cX).ownBlock ∨ ∃ b, v1.ownBlock = some b ∧ (wr.drew.alloc (.cells #[.slice sa sn sc] 22)).heap.size ≤ b) →
              TakeI w (w1.setCell ⟨p, 2, none⟩ v1) B p n0 x (n0 + x) ok vs M vW2 v1 (ws ++ (List.range y).map M) (es ++ (List.range (y + 1)).map (fun j => slcOf (vs j))) 0) := ⟨fun v1 w1 hm hf ho => by
            have hfa : Fr No wr (wr.drew.alloc (.cells #[.slice sa sn sc] 22)) := (Fr.refl No wr).drew.alloc _
            have hza := hfa.size
            rw [range_snoc, ← List.append_assoc]
            simp only [HSE.out]
            refine HT.out.addL HOKP.out hm (by rw [HVL.out, HLN.out.1]; exact (hfa.mono (fun _ h => h.elim)).trans hf (fun k hk => .inl hk)) (by rw [HVL.out, HLN.out.1]; exact ho.imp id (fun ⟨b, e, hb⟩ => ⟨b, e, by omega⟩)) (fun t ht a9 e9 => ?_) (by rw [HLN.out.1, HLN.out.2]; omega)
            obtain rfl : t = 0 := by simpa using ht
            have hv : (vs y).ownBlock = some a9.block := by
              rw [← HSL.out y hyl, HSE.out]
              simp only [List.getElem_cons_zero] at e9
              subst e9
              rfl
            exact ⟨HT.out.s.apart (HT.out.rows.mine y hyl) _ hv, .inr (.inr ⟨y, hyl, hv, .inr (by rw [HLN.out.1]; rfl)⟩)⟩⟩
          have d2b : (wr.alloc (.cells #[.slice sa sn sc] 22)).cell? ⟨p, 2, none⟩ = some (.slice X (n0 + y) cX) := ((Fr.refl No wr).alloc _).cell d2 id
          have HL9 : Aside0 (((es ++ (List.range y).map (fun j => slcOf (vs j))) ++ [(sa, sn, sc)]).length = n0 + y + 1) := ⟨by rw [List.length_append, HLN.out.1]; rfl⟩
          unfold slcV at HL1
          go_upto_region 13 with fail
          go_cut [8] (fun s8 wx => s8 = .int .i64 y ∧ ∃ vL3, Aside0 (TakeI w wx B p n0 x (n0 + x) ok vs M vW2 vL3 (ws ++ (List.range y).map M) (es ++ (List.range (y + 1)).map (fun j => slcOf (vs j))) 0))
          case first =>
            go_region_law ((refine app_scalar_step (enc := slcV) (h1 := fun _ => rfl) B (by rfl) _ _ 34 22 (.slice none 0 0) 24 (by rfl) Tryd.underlying34 infoRow rfl (by decide) (.slice X (n0 + y) cX) _ [(sa, sn, sc)] _ 1 _ (by rfl) (by rfl) HR0.out HL1.out HBZ.out HLL.out ?_; intro v1 w1 hm hf ho; obtain ⟨X1, c1, rfl, hc1, -⟩ := Kd.R_reads hm; obtain ⟨hk9, hz9⟩ := HKP.out _ hf; rw [HL9.out] at hm ho ⊢))
            all_goals (go_wp2_with fail; go_meet; exact ⟨rfl, _, ⟨HAD.out _ _ hm hf ho⟩⟩)
          case rest =>
            obtain ⟨rfl, vL3, HT2⟩ := hcut
            clear HT HAD HR0 HL1 HBZ HTY HBX HVL HLL HL9 HKP hca d2 d2b hpz
            have HRY := Aside0.mk (HML.out y)
            obtain ⟨ly, hly⟩ : ∃ ly, (rs y).length = ly := ⟨_, rfl⟩
            have HLY := Aside0.mk hly
            have hlym : ly ≤ 67108864 := by rw [← hly]; exact HRL.out y
            clear hly
            obtain ⟨ad2, hAe, hca⟩ := HA2.out wc HT2.out.fr y hyl
            obtain rfl := Option.some.inj hAe
            obtain ⟨Ay, cy, hvy, -, -⟩ := (HT2.out.rows.mine y hyl).reads
            rw [HML.out, HLY.out] at hvy
            rw [hvy] at hca
            obtain ⟨-, d1, -⟩ := HT2.out.s.cell
            obtain ⟨Y, cY, hvW, -, -⟩ := Kd.R_reads HT2.out.s.want
            rw [hvW, HLN.out.2] at d1
            have HVW := Aside0.mk hvW
            clear hvW hvy hAe
            have HMK : Aside0 (M y = markL (n0 + y) ly) := ⟨by rw [HMD.out, ← HLY.out]⟩
            have HMC : Aside0 (∀ W, Calls Tryd.prog 74 #[.int .i64 (IntKind.i64.wrap ((n0 : Int) + (y : Int))), .int .i64 (ly : Int)] W fun e w' => ∃ D cd, e = .returned (.slice D ly cd) ∧ Rb w' D (M y) ∧ Fr No W w') := ⟨fun W => by
              rw [IntWalk.i64_in ((n0 : Int) + (y : Int)) (by omega), HMK.out]
              refine (marked_calls (n0 + y) ly W (by omega) (by omega)).mono ?_
              rintro e w' ⟨v, rfl, hm, hf⟩
              obtain ⟨D, cd, rfl, -, hr⟩ := hm.reads
              rw [markL_length]
              exact ⟨D, cd, rfl, hr, hf⟩⟩
            have HCV : Aside0 (∀ W D cd, Rb W D (M y) → (convert 22 9 (.slice D ly cd)).run Tryd.prog W = .ok (.string ⟨(M y).toArray⟩) W) := ⟨fun W D cd hr => by
              have h1 := Kd.C_string (P := Tryd.prog) (c := cd) Tryd.underlying22 Tryd.underlying5 Tryd.underlying9 hr
              rw [str_bi, HML.out, HLY.out] at h1
              exact h1⟩
            have HTN := Aside0.mk (fun W hf => HT2.out.frN (w1 := W) hf)
            have HSW : Aside0 (∀ W, Fr No wc W → Kd.R KS 9 W B (fun _ => True) (.slice Y (n0 + y) cY) (ws ++ (List.range y).map M)) := ⟨fun W hf => by
              have := (HT2.out.frN hf).s.want
              rwa [HVW.out, HLN.out.2] at this⟩
            have HBZ : Aside0 (∀ W, Fr No wc W → B ≤ W.heap.size) := ⟨fun W hf => by have := hf.size; have := HT2.out.fr.size; omega⟩
            have HLL : Aside0 (((ws ++ (List.range y).map M).length + 1) * 16 ≤ 140737488355328) := ⟨by rw [HLN.out.2]; omega⟩
            have hpz := blk_frozen HT2.out.s.box 1
            have HPZ := Aside0.mk hpz
            have HBX := Aside0.mk HT2.out.s.box
            have HTY : Aside0 (vW2.ownBlock ≠ some p) := ⟨fun e => Kd.R_ne HT2.out.s.want HT2.out.s.box (by decide) e.symm⟩
            have HL9 : Aside0 (((ws ++ (List.range y).map M) ++ [M y]).length = n0 + y + 1) := ⟨by rw [List.length_append, HLN.out.2]; rfl⟩
            have HD1 := Aside0.mk d1
            have HAD : Aside0 (∀ (W : World) (v1 : Value) (w1 : World), Fr No wc W → Kd.R KS 9 w1 B (fun _ => True) v1 ((ws ++ (List.range y).map M) ++ [M y]) → Fr (fun k => (Value.slice Y (n0 + y) cY).ownBlock = some k) W w1 → (v1.ownBlock = (Value.slice Y (n0 + y) cY).ownBlock ∨ ∃ b, v1.ownBlock = some b ∧ W.heap.size ≤ b) →
                TakeI w (w1.setCell ⟨p, 1, none⟩ v1) B p n0 x (n0 + x) ok vs M v1 vL3 (ws ++ (List.range (y + 1)).map M) (es ++ (List.range (y + 1)).map (fun j => slcOf (vs j))) 0) := ⟨fun W v1 w1 hfa hm hf ho => by
              have HT3 := HT2.out.frN hfa
              rw [range_snoc M, ← List.append_assoc]
              refine HT3.addW HOKP.out hm (by rw [HVW.out, HLN.out.2]; exact hf) (by rw [HVW.out, HLN.out.2]; exact ho) (fun t ht h1 => ?_)
              obtain rfl : t = 0 := by simpa using ht
              have h5 := elem_of_mine (HT3.rows.mine y hyl)
              have e6 : (es ++ (List.range (y + 1)).map (fun j => slcOf (vs j)))[(ws ++ (List.range y).map M).length + 0]'h1 = slcOf (vs y) := by
                have := HLN.out
                have e7 : (ws ++ (List.range y).map M).length + 0 = es.length + y := by rw [HLN.out.2, HLE.out]; omega
                simp only [e7]
                rw [List.getElem_append_right (by omega)]
                simp
              rw [e6]
              exact h5⟩
            clear HT2 HMK
            go_upto_region 14 with fail
            go_region_law (first
              | (refine app_scalar_step (enc := fun l : List UInt8 => Value.string ⟨l.toArray⟩) (h1 := fun _ => rfl) B (by rfl) _ _ 42 9 (.string ByteArray.empty) 16 (by rfl) Tryd.underlying42 infoStr rfl (by decide) (.slice Y (n0 + y) cY) (ws ++ (List.range y).map M) [M y] _ 1 _ (by rfl) (by rfl) (HSW.out _ HFA.out) HL1.out (HBZ.out _ HFA.out) HLL.out ?_; intro v1 w1 hm hf ho; obtain ⟨X1, c1, rfl, hc1, -⟩ := Kd.R_reads hm; obtain ⟨hk9, hz9⟩ := HKP.out _ hf; rw [HL9.out] at hm ho ⊢)
              | (go_simp; go_wp2_with (go_at_call 74; refine (HMC.out _).mono ?_; rintro e w2 ⟨D, cd, rfl, hr, hf2⟩; have HF2 : Aside0 (Fr No wc w2) := ⟨((Fr.refl No wc).drew).then_ hf2⟩; have k1 := HF2.out.cell HD1.out id; have HFA : Aside0 (Fr No wc (w2.alloc (.cells #[.string ⟨(M y).toArray⟩] 9))) := ⟨HF2.out.alloc _⟩; have k2 := HFA.out.cell HD1.out id; have hcv := HCV.out w2 D cd hr; have HL1 := Aside0.mk (litS w2 (M y)); have HKP : Aside0 (∀ w1, Fr (fun k => (Value.slice Y (n0 + y) cY).ownBlock = some k) (w2.alloc (.cells #[.string ⟨(M y).toArray⟩] 9)) w1 → w1.cell? ⟨p, 1, none⟩ = some (.slice Y (n0 + y) cY) ∧ w1.frozen? ⟨p, 1, none⟩ = false) := ⟨fun w1 hf => ⟨hf.cell k2 (by have h9 := HTY.out; rw [HVW.out, HLN.out.2] at h9; exact h9), blk_frozen (hf.heap (HFA.out.heap HBX.out id) (by have h9 := HTY.out; rw [HVW.out, HLN.out.2] at h9; exact h9)) 1⟩⟩; clear hr hf2)))
            all_goals (go_wp2_with fail; exact ⟨⟨y + 1, by omega, by go_num, ⟨_, _, HAD.out _ _ _ HFA.out hm hf ho⟩⟩, by simp [intOf]; omega⟩)
        · obtain rfl : x = y := by omega
          obtain ⟨vW2, vL2, hI⟩ := HI.out
          have HT := Aside0.mk hI
          have hES : (es ++ (List.range x).map (fun j => slcOf (vs j))).length = n0 + x := by simp [HLE.out]
          have hWS : (ws ++ (List.range x).map M).length = n0 + x := by simp [HLW.out]
          have HES : Aside0 ((es ++ (List.range x).map (fun j => slcOf (vs j))).length = n0 + x) := ⟨hES⟩
          have HWS : Aside0 ((ws ++ (List.range x).map M).length = n0 + x) := ⟨hWS⟩
          have HEI : Aside0 (∀ i (hi : i < x) (h1 : n0 + i < (es ++ (List.range x).map (fun j => slcOf (vs j))).length), slcV (es ++ (List.range x).map (fun j => slcOf (vs j)))[n0 + i] = vs i) := ⟨fun i hi h1 => by
            rw [List.getElem_append_right (by rw [HLE.out]; omega)]
            simp only [List.getElem_map, List.getElem_range]
            rw [show n0 + i - es.length = i by rw [HLE.out]; omega]
            exact HSL.out i hi⟩
          have HWI : Aside0 (∀ i (hi : i < x) (h1 : n0 + i < (ws ++ (List.range x).map M).length), (ws ++ (List.range x).map M)[n0 + i] = M i) := ⟨fun i hi h1 => by
            rw [List.getElem_append_right (by rw [HLW.out]; omega)]
            simp only [List.getElem_map, List.getElem_range]
            rw [show n0 + i - ws.length = i by rw [HLW.out]; omega]⟩
          clear hI HI hES hWS HLW HLE HSL
          generalize es ++ (List.range x).map (fun j => slcOf (vs j)) = es1 at *
          generalize ws ++ (List.range x).map M = ws1 at *
          go_wp2_with fail
          refine (still_calls wr B p (n0 + x) vW2 vL2 ws1 es1 HT.out.s (by rw [HES.out, HWS.out]) (by rw [HES.out]; omega) HT.out.el).mono ?_
          rintro e w2 ⟨rfl, hf⟩
          have HT2 := Aside0.mk (HT.out.frN hf)
          clear hf HT
          go_wp2_with fail
          go_loopw [9] (fun i wr => ∃ z : Nat, z ≤ x ∧ i = .int .i64 z ∧ Aside0 (∃ vW' vL' ls gs, ls.length = 3 * z ∧ gs.length = 3 * z ∧ TakeI w wr B p n0 x (n0 + x + 3 * z) ok vs M vW' vL' (ws1 ++ ls) (es1 ++ gs) z)) (fun i _ => x - (intOf i).toNat)
          case atStart => exact ⟨0, by omega, rfl, ⟨vW2, vL2, [], [], rfl, rfl, by rw [List.append_nil, List.append_nil]; exact HT2.out⟩⟩
          case round =>
            clear HT2
            obtain ⟨z, hz, rfl, HI⟩ := hrel
            by_cases hzl : z < x
            · have hzi : (z : Int) < (x : Int) := by omega
              obtain ⟨nz, hnz⟩ : ∃ nz, n0 + x + 3 * z = nz := ⟨_, rfl⟩
              have hnz2 : nz ≤ 2000000000 := by omega
              obtain ⟨vW3, vL3, ls, gs, hls, hgs, hT⟩ := HI.out
              rw [hnz] at hT
              have HNZ := Aside0.mk hnz
              have HT := Aside0.mk hT
              have HLS := Aside0.mk hls; have HGS := Aside0.mk hgs
              have HEZ : Aside0 (∀ (h1 : n0 + z < (es1 ++ gs).length), slcV (es1 ++ gs)[n0 + z] = vs z) := ⟨fun h1 => by
                rw [List.getElem_append_left (by rw [HES.out]; omega)]
                exact HEI.out z hzl _⟩
              have HWZ : Aside0 (∀ (h1 : n0 + z < (ws1 ++ ls).length), (ws1 ++ ls)[n0 + z] = M z) := ⟨fun h1 => by
                rw [List.getElem_append_left (by rw [HWS.out]; omega)]
                exact HWI.out z hzl _⟩
              have HLT : Aside0 (∀ k, OwnD x vs k → k < w.heap.size) := ⟨fun k hk => (HR.out.lt hk).2⟩
              have HMZ : Aside0 ((M z).length ≤ 67108864) := ⟨by rw [HML.out]; exact HRL.out z⟩
              obtain ⟨ad, hAe, -⟩ := HA2.out wr hT.fr z hzl
              subst hAe
              obtain ⟨Az, cz, hvz, -, -⟩ := (hT.rows.mine z hzl).reads
              obtain ⟨lz, hlz⟩ : ∃ lz, (M z).length = lz := ⟨_, rfl⟩
              rw [hlz] at hvz
              have HVZ := Aside0.mk hvz
              have HCZ : Aside0 (∀ W, Fr (fun k => ok k ∨ OwnD x vs k) w W → W.cell? (ad.add z) = some (.slice Az lz cz)) := ⟨fun W hf => by
                obtain ⟨ad2, e, hc⟩ := HA2.out W hf z hzl
                obtain rfl := Option.some.inj e
                rw [hc, HVZ.out]⟩
              have HBW : Aside0 (∀ W2 D cd q l, TakeI w W2 B p n0 x nz ok vs M vW3 vL3 (ws1 ++ ls) (es1 ++ gs) z → ∀ W3, Fr No W2 W3 → Rb W3 D l → (∀ ad, D = some ad → W2.heap.size ≤ ad.block) → q ≤ cd → l.length = q → q ≤ 1000 →
                  Calls Tryd.prog 75 #[.slice Az lz cz, .slice D q cd] W3 fun e w' => ∃ g, e = .returned g ∧ TakeI w w' B p n0 x nz ok vs M vW3 vL3 (ws1 ++ ls) (es1 ++ gs) z ∧ Gn w w' p vW3 vL3 (vs z) g (slcOf g) ∧ BySt W2 w' ∧ W2.heap.size ≤ w'.heap.size) := ⟨fun W2 D cd q l h W3 hf hr hn hc hq hl => by
                have := h.grow_calls hzl hB HMZ.out HD.out HLT.out HEZ.out HWZ.out hf hr hn hc hq hl
                rw [HVZ.out] at this ⊢
                exact this⟩
              have HM1 : Aside0 (∀ W, Calls Tryd.prog 74 #[.int .i64 (IntKind.i64.wrap ((nz : Int) + 1)), .int .i64 1] W fun e w' => ∃ D cd, e = .returned (.slice D 1 cd) ∧ Rb w' D (markL (nz + 1) 1) ∧ 1 ≤ cd ∧ Fr No W w' ∧ ∀ ad, D = some ad → W.heap.size ≤ ad.block) := ⟨fun W => by
                rw [IntWalk.i64_in ((nz : Int) + 1) (by omega)]
                exact marked_at (nz + 1) 1 W (by omega) (by omega)⟩
              have HM2 : Aside0 (∀ W, Calls Tryd.prog 74 #[.int .i64 (IntKind.i64.wrap ((nz : Int) + 2)), .int .i64 70] W fun e w' => ∃ D cd, e = .returned (.slice D 70 cd) ∧ Rb w' D (markL (nz + 2) 70) ∧ 70 ≤ cd ∧ Fr No W w' ∧ ∀ ad, D = some ad → W.heap.size ≤ ad.block) := ⟨fun W => by
                rw [IntWalk.i64_in ((nz : Int) + 2) (by omega)]
                exact marked_at (nz + 2) 70 W (by omega) (by omega)⟩
              have HM3 : Aside0 (∀ W, Calls Tryd.prog 74 #[.int .i64 (IntKind.i64.wrap ((nz : Int) + 3)), .int .i64 900] W fun e w' => ∃ D cd, e = .returned (.slice D 900 cd) ∧ Rb w' D (markL (nz + 3) 900) ∧ 900 ≤ cd ∧ Fr No W w' ∧ ∀ ad, D = some ad → W.heap.size ≤ ad.block) := ⟨fun W => by
                rw [IntWalk.i64_in ((nz : Int) + 3) (by omega)]
                exact marked_at (nz + 3) 900 W (by omega) (by omega)⟩
              have hcz := HCZ.out _ HT.out.fr
              obtain ⟨hcn, -, -⟩ := HT.out.s.cell
              clear hT hnz hls hgs hlz hvz HI
              go_wp2_with fail
              go_cut [10] (fun s10 wx => ∃ g1, g1 = s10 ∧ Aside0 (TakeI w wx B p n0 x nz ok vs M vW3 vL3 (ws1 ++ ls) (es1 ++ gs) z) ∧ Aside0 (Gn w wx p vW3 vL3 (vs z) g1 (slcOf g1)))
              case first =>
                go_region_with (first
                  | (go_at_call 74; refine (HM1.out _).mono ?_; rintro e w3 ⟨D, cd, rfl, hr, hcd, hf3, hn3⟩; have HF3 : Aside0 (Fr No wr w3) := ⟨((Fr.refl No wr).drew).then_ hf3⟩; have k1 := HF3.out.cell hcz id; have k2 := HF3.out.cell hcn id; have HR3 := Aside0.mk hr; have HN3 : Aside0 (∀ ad, D = some ad → wr.heap.size ≤ ad.block) := ⟨hn3⟩; have HCD := Aside0.mk hcd; clear hr hf3 hn3 hcd)
                  | (go_at_call 75; refine (HBW.out wr D cd 1 _ HT.out _ HF3.out HR3.out HN3.out HCD.out (markL_length _ _) (by decide)).mono ?_; rintro e w4 ⟨g, rfl, hT4, hG4, hb4, hs4⟩; have HT4 := Aside0.mk hT4; have HG4 := Aside0.mk hG4; clear hT4 hG4 hb4 hs4))
                all_goals (go_wp2_with fail; go_meet; exact ⟨_, rfl, HT4, HG4⟩)
              case rest =>
                obtain ⟨g1, hg1, HT1, HG1⟩ := hcut
                subst hg1
                obtain ⟨wa, rfl⟩ : ∃ wa : World, wa = wc := ⟨_, rfl⟩
                clear hcz hcn HT
                have hcz := HCZ.out _ HT1.out.fr
                obtain ⟨hcn, -, -⟩ := HT1.out.s.cell
                go_upto_region 21 with fail
                go_cut [11] (fun s11 wx => ∃ g2, g2 = s11 ∧ Aside0 (TakeI w wx B p n0 x nz ok vs M vW3 vL3 (ws1 ++ ls) (es1 ++ gs) z) ∧ Aside0 (Gn w wx p vW3 vL3 (vs z) g1 (slcOf g1)) ∧ Aside0 (Gn w wx p vW3 vL3 (vs z) g2 (slcOf g2)))
                case first =>
                  go_region_with (first
                    | (go_at_call 74; refine (HM2.out _).mono ?_; rintro e w3 ⟨D, cd, rfl, hr, hcd, hf3, hn3⟩; have HF3 : Aside0 (Fr No wa w3) := ⟨((Fr.refl No wa).drew).then_ hf3⟩; have k1 := HF3.out.cell hcz id; have k2 := HF3.out.cell hcn id; have HR3 := Aside0.mk hr; have HN3 : Aside0 (∀ ad, D = some ad → wa.heap.size ≤ ad.block) := ⟨hn3⟩; have HCD := Aside0.mk hcd; clear hr hf3 hn3 hcd)
                    | (go_at_call 75; refine (HBW.out wa D cd 70 _ HT1.out _ HF3.out HR3.out HN3.out HCD.out (markL_length _ _) (by decide)).mono ?_; rintro e w4 ⟨g, rfl, hT4, hG4, hb4, hs4⟩; have HT4 := Aside0.mk hT4; have HG4 := Aside0.mk hG4; have HG5 := Aside0.mk (HG1.out.by_ hb4 hs4); clear hT4 hG4 hb4 hs4))
                  all_goals (go_wp2_with fail; go_meet; exact ⟨_, rfl, HT4, HG5, HG4⟩)
                case rest =>
                  clear hcz hcn HT1 HG1
                  obtain ⟨g2, hg2, HT2, HG1, HG2⟩ := hcut
                  subst hg2
                  obtain ⟨wb, rfl⟩ : ∃ wb : World, wb = wc := ⟨_, rfl⟩
                  have hcz := HCZ.out _ HT2.out.fr
                  obtain ⟨hcn, -, -⟩ := HT2.out.s.cell
                  go_upto_region 22 with fail
                  go_cut [12] (fun s12 wx => ∃ g3, g3 = s12 ∧ Aside0 (TakeI w wx B p n0 x nz ok vs M vW3 vL3 (ws1 ++ ls) (es1 ++ gs) z) ∧ Aside0 (Gn w wx p vW3 vL3 (vs z) g1 (slcOf g1)) ∧ Aside0 (Gn w wx p vW3 vL3 (vs z) g2 (slcOf g2)) ∧ Aside0 (Gn w wx p vW3 vL3 (vs z) g3 (slcOf g3)))
                  case first =>
                    go_region_with (first
                      | (go_at_call 74; refine (HM3.out _).mono ?_; rintro e w3 ⟨D, cd, rfl, hr, hcd, hf3, hn3⟩; have HF3 : Aside0 (Fr No wb w3) := ⟨((Fr.refl No wb).drew).then_ hf3⟩; have k1 := HF3.out.cell hcz id; have k2 := HF3.out.cell hcn id; have HR3 := Aside0.mk hr; have HN3 : Aside0 (∀ ad, D = some ad → wb.heap.size ≤ ad.block) := ⟨hn3⟩; have HCD := Aside0.mk hcd; clear hr hf3 hn3 hcd)
                      | (go_at_call 75; refine (HBW.out wb D cd 900 _ HT2.out _ HF3.out HR3.out HN3.out HCD.out (markL_length _ _) (by decide)).mono ?_; rintro e w4 ⟨g, rfl, hT4, hG4, hb4, hs4⟩; have HT4 := Aside0.mk hT4; have HG4 := Aside0.mk hG4; have HG5 := Aside0.mk (HG1.out.by_ hb4 hs4); have HG6 := Aside0.mk (HG2.out.by_ hb4 hs4); clear hT4 hG4 hb4 hs4))
                    all_goals (go_wp2_with fail; go_meet; exact ⟨_, rfl, HT4, HG5, HG6, HG4⟩)
                  case rest =>
                    clear hcz hcn HT2 HG1 HG2 HM1 HM2 HM3 HBW
                    obtain ⟨g3, hg3, HT3, HG1, HG2, HG3⟩ := hcut
                    subst hg3
                    obtain ⟨wd, rfl⟩ : ∃ wd : World, wd = wc := ⟨_, rfl⟩
                    obtain ⟨hcn, -, -⟩ := HT3.out.s.cell
                    have hfz := blk_frozen HT3.out.s.box 0
                    go_upto_region 23 with fail
                    go_cut [] (fun wx => Aside0 (TakeI w wx B p n0 x (nz + 3) ok vs M vW3 vL3 (ws1 ++ ls) (es1 ++ gs) (z + 1)) ∧ Aside0 (Gn w wx p vW3 vL3 (vs z) g1 (slcOf g1)) ∧ Aside0 (Gn w wx p vW3 vL3 (vs z) g2 (slcOf g2)) ∧ Aside0 (Gn w wx p vW3 vL3 (vs z) g3 (slcOf g3)))
                    case first =>
                      go_wp2_with fail
                      go_meet
                      have HFN : Aside0 (Fr (fun k => k = p) wd (wd.setCell ⟨p, 0, none⟩ (.int .i64 ((nz : Int) + 3)))) := ⟨(Fr.refl (fun k => k = p) wd).setCell (.inl rfl) _⟩
                      have HGF : ∀ g, Gn w wd p vW3 vL3 (vs z) g (slcOf g) → Gn w (wd.setCell ⟨p, 0, none⟩ (.int .i64 ((nz : Int) + 3))) p vW3 vL3 (vs z) g (slcOf g) := fun g h => h.frS HFN.out (fun ad e => (h.at_ ad e).1.2.1) (fun ad e => (h.at_ ad e).1.2.2.1) (fun ad e => (h.at_ ad e).1.2.2.2)
                      exact ⟨⟨by have := HT3.out.next.setN HOKP.out (nz + 3); push_cast at this; exact this⟩, ⟨HGF _ HG1.out⟩, ⟨HGF _ HG2.out⟩, ⟨HGF _ HG3.out⟩⟩
                    case rest =>
                      clear hcn hfz HT3 HG1 HG2 HG3
                      obtain ⟨HT4, HG1, HG2, HG3⟩ := hcut
                      obtain ⟨we, rfl⟩ : ∃ we : World, we = wc := ⟨_, rfl⟩
                      obtain ⟨D1, m1, c1, he1⟩ : ∃ a n c, g1 = .slice a n c := ⟨_, _, _, HG1.out.eq⟩
                      obtain ⟨D2, m2, c2, he2⟩ : ∃ a n c, g2 = .slice a n c := ⟨_, _, _, HG2.out.eq⟩
                      obtain ⟨D3, m3, c3, he3⟩ : ∃ a n c, g3 = .slice a n c := ⟨_, _, _, HG3.out.eq⟩
                      subst he1 he2 he3
                      obtain ⟨-, -, d2⟩ := HT4.out.s.cell
                      have hpz := blk_frozen HT4.out.s.box 2
                      obtain ⟨X, cX, hvL, -, -⟩ := Kd.R_reads HT4.out.s.lists
                      have HEL : Aside0 ((es1 ++ gs).length = nz) := ⟨by rw [List.length_append, HES.out, HGS.out, HNZ.out]⟩
                      have HWL : Aside0 ((ws1 ++ ls).length = nz) := ⟨by rw [List.length_append, HWS.out, HLS.out, HNZ.out]⟩
                      rw [HEL.out] at hvL
                      have HVL := Aside0.mk hvL
                      rw [hvL] at d2
                      clear hvL
                      have HBX := Aside0.mk HT4.out.s.box
                      have HTY : Aside0 ((Value.slice X nz cX).ownBlock ≠ some p) := ⟨fun e => Kd.R_ne HT4.out.s.lists HT4.out.s.box (by decide) (by rw [HVL.out, e])⟩
                      have HFA : Aside0 (Fr No we (we.alloc (.cells #[.slice D1 m1 c1, .slice D2 m2 c2, .slice D3 m3 c3] 22))) := ⟨(Fr.refl No we).alloc _⟩
                      have d2b := HFA.out.cell d2 id
                      have HR0 : Aside0 (Kd.R KV 22 (we.alloc (.cells #[.slice D1 m1 c1, .slice D2 m2 c2, .slice D3 m3 c3] 22)) B (fun _ => True) (.slice X nz cX) (es1 ++ gs)) := ⟨by have := scalar_fr HT4.out.s.lists HFA.out (fun _ _ => id); rwa [HVL.out] at this⟩
                      have HL3 : Aside0 (KV.C (we.alloc (.cells #[.slice D1 m1 c1, .slice D2 m2 c2, .slice D3 m3 c3] 22)) (some ⟨we.heap.size, 0, none⟩) 3 [slcOf (.slice D1 m1 c1), slcOf (.slice D2 m2 c2), slcOf (.slice D3 m3 c3)]) := ⟨by
                        have := lit3 we (slcOf (.slice D1 m1 c1)) (slcOf (.slice D2 m2 c2)) (slcOf (.slice D3 m3 c3))
                        rwa [← HG1.out.eq, ← HG2.out.eq, ← HG3.out.eq] at this⟩
                      have HBZ : Aside0 (B ≤ (we.alloc (.cells #[.slice D1 m1 c1, .slice D2 m2 c2, .slice D3 m3 c3] 22)).heap.size) := ⟨by have := HFA.out.size; have := HT4.out.fr.size; omega⟩
                      have HLL : Aside0 (((es1 ++ gs).length + 3) * 24 ≤ 140737488355328) := ⟨by rw [HEL.out]; omega⟩
                      have HL9 : Aside0 (((es1 ++ gs) ++ [slcOf (.slice D1 m1 c1), slcOf (.slice D2 m2 c2), slcOf (.slice D3 m3 c3)]).length = nz + 3) := ⟨by rw [List.length_append, HEL.out]; rfl⟩
                      have HKP : Aside0 (∀ w1, Fr (fun k => (Value.slice X nz cX).ownBlock = some k) (we.alloc (.cells #[.slice D1 m1 c1, .slice D2 m2 c2, .slice D3 m3 c3] 22)) w1 → w1.cell? ⟨p, 2, none⟩ = some (.slice X nz cX) ∧ w1.frozen? ⟨p, 2, none⟩ = false) := ⟨fun w1 hf => ⟨hf.cell d2b HTY.out, blk_frozen (hf.heap (HFA.out.heap HBX.out id) HTY.out) 2⟩⟩
                      have HAD : Aside0 (∀ (v1 : Value) (w1 : World), Kd.R KV 22 w1 B (fun _ => True) v1 ((es1 ++ gs) ++ [slcOf (.slice D1 m1 c1), slcOf (.slice D2 m2 c2), slcOf (.slice D3 m3 c3)]) → Fr (fun k => (Value.slice X nz cX).ownBlock = some k) (we.alloc (.cells #[.slice D1 m1 c1, .slice D2 m2 c2, .slice D3 m3 c3] 22)) w1 → (v1.ownBlock = (Value.slice X nz cX).ownBlock ∨ ∃ b, v1.ownBlock = some b ∧ (we.alloc (.cells #[.slice D1 m1 c1, .slice D2 m2 c2, .slice D3 m3 c3] 22)).heap.size ≤ b) →
                          TakeI w (w1.setCell ⟨p, 2, none⟩ v1) B p n0 x (nz + 3) ok vs M vW3 v1 (ws1 ++ ls) (es1 ++ (gs ++ [slcOf (.slice D1 m1 c1), slcOf (.slice D2 m2 c2), slcOf (.slice D3 m3 c3)])) (z + 1) ∧ Gn w (w1.setCell ⟨p, 2, none⟩ v1) p vW3 v1 (vs z) (.slice D1 m1 c1) (slcOf (.slice D1 m1 c1)) ∧ Gn w (w1.setCell ⟨p, 2, none⟩ v1) p vW3 v1 (vs z) (.slice D2 m2 c2) (slcOf (.slice D2 m2 c2)) ∧ Gn w (w1.setCell ⟨p, 2, none⟩ v1) p vW3 v1 (vs z) (.slice D3 m3 c3) (slcOf (.slice D3 m3 c3))) := ⟨fun v1 w1 hm hf ho => by
                        have hf' : Fr (fun k => vL3.ownBlock = some k) we w1 := by rw [HVL.out]; exact (HFA.out.mono (fun _ h => h.elim)).trans hf (fun k hk => .inl hk)
                        have ho' : v1.ownBlock = vL3.ownBlock ∨ ∃ b, v1.ownBlock = some b ∧ we.heap.size ≤ b := by rw [HVL.out]; exact ho.imp id (fun ⟨b, e, hb⟩ => ⟨b, e, by have := HFA.out.size; omega⟩)
                        have hS : ∀ g, Gn w we p vW3 vL3 (vs z) g (slcOf g) → Gn w (w1.setCell ⟨p, 2, none⟩ v1) p vW3 v1 (vs z) g (slcOf g) := fun g h => by
                          refine h.frS ((hf'.mono (S2 := fun k => k = p ∨ vL3.ownBlock = some k) (fun k hk => .inl (.inr hk))).setCell (.inl (.inl rfl)) _) (fun ad e h2 => ?_) (fun ad e => (h.at_ ad e).1.2.2.1) (fun ad e h2 => ?_)
                          · rcases h2 with h2 | h2
                            · exact (h.at_ ad e).1.2.1 h2
                            · exact (h.at_ ad e).1.2.2.2 h2
                          · rcases ho' with e2 | ⟨b, e2, hb⟩
                            · exact (h.at_ ad e).1.2.2.2 (by rw [← e2, h2])
                            · rw [e2] at h2; injection h2 with h2; have := (h.at_ ad e).1.1; omega
                        refine ⟨?_, hS _ HG1.out, hS _ HG2.out, hS _ HG3.out⟩
                        rw [← List.append_assoc]
                        refine HT4.out.addL HOKP.out hm hf' ho' (fun t ht ad e => ?_) (by rw [HEL.out, HWL.out]; omega)
                        have hg : ∃ g, Gn w we p vW3 vL3 (vs z) g (slcOf g) ∧ (slcOf g).1 = some ad := by
                          have : t = 0 ∨ t = 1 ∨ t = 2 := by simp at ht; omega
                          rcases this with rfl | rfl | rfl
                          · exact ⟨_, HG1.out, e⟩
                          · exact ⟨_, HG2.out, e⟩
                          · exact ⟨_, HG3.out, e⟩
                        obtain ⟨g, hg, e⟩ := hg
                        have h3 := hg.at_ ad e
                        exact ⟨h3.1, h3.2.elim (fun h => .inr (.inl h)) (fun h => .inr (.inr ⟨z, hzl, h, .inl (by omega)⟩))⟩⟩
                      clear HG1 HG2 HG3 HT4 HVL
                      go_upto_region 24 with fail
                      go_wp2_with (at_builtin; refine app_scalar (enc := slcV) (h1 := fun _ => rfl) (none, 0, 0) B rfl (.tmp 145) (.tmp 149) 34 22 (.slice none 0 0) 24 rfl Tryd.underlying34 infoRow rfl (by decide) (.slice X nz cX) (es1 ++ gs) [slcOf (.slice D1 m1 c1), slcOf (.slice D2 m2 c2), slcOf (.slice D3 m3 c3)] _ 3 _ rfl rfl HR0.out HL3.out HBZ.out HLL.out ?_
                                   intro v1 w1 hm hf ho
                                   obtain ⟨hT5, hG1, hG2, hG3⟩ := HAD.out v1 w1 hm hf ho
                                   obtain ⟨X1, cX1, rfl, -, -⟩ := Kd.R_reads hm
                                   obtain ⟨hk9, hz9⟩ := HKP.out _ hf
                                   rw [HL9.out] at hT5 hG1 hG2 hG3 ⊢
                                   have HT5 := Aside0.mk hT5; have HG1 := Aside0.mk hG1; have HG2 := Aside0.mk hG2; have HG3 := Aside0.mk hG3
                                   clear hm hf ho hT5 hG1 hG2 hG3)
                      clear HR0 HL3 HBZ HLL HL9 HKP HAD HFA HBX HTY d2 d2b hpz
                      generalize w1.setCell ⟨p, 2, none⟩ (.slice X1 (nz + 3) cX1) = wf at HT5 HG1 HG2 HG3 ⊢
                      obtain ⟨-, d1, -⟩ := HT5.out.s.cell
                      have hpz := blk_frozen HT5.out.s.box 1
                      obtain ⟨Y, cY, hvW, -, -⟩ := Kd.R_reads HT5.out.s.want
                      rw [HWL.out] at hvW
                      have HVW := Aside0.mk hvW
                      rw [hvW] at d1
                      clear hvW
                      have HBX := Aside0.mk HT5.out.s.box
                      have HTY : Aside0 ((Value.slice Y nz cY).ownBlock ≠ some p) := ⟨fun e => Kd.R_ne HT5.out.s.want HT5.out.s.box (by decide) (by rw [HVW.out, e])⟩
                      obtain ⟨l1, hE1, hc1⟩ := HG1.out.conv
                      obtain ⟨l2, hE2, hc2⟩ := HG2.out.conv
                      obtain ⟨l3, hE3, hc3⟩ := HG3.out.conv
                      have HE1 := Aside0.mk hE1; have HE2 := Aside0.mk hE2; have HE3 := Aside0.mk hE3
                      have HC1 := Aside0.mk hc1; have HC2 := Aside0.mk hc2; have HC3 := Aside0.mk hc3; have HD1 := Aside0.mk d1
                      have HRW : Aside0 (∀ W, Fr No wf W → Kd.R KS 9 W B (fun _ => True) (.slice Y nz cY) (ws1 ++ ls)) := ⟨fun W hf => by have := scalar_fr HT5.out.s.want hf (fun _ _ => id); rwa [HVW.out] at this⟩
                      have HBZ : Aside0 (∀ W, Fr No wf W → B ≤ W.heap.size) := ⟨fun W hf => by have := hf.size; have := HT5.out.fr.size; omega⟩
                      have HLL : Aside0 (((ws1 ++ ls).length + 3) * 16 ≤ 140737488355328) := ⟨by rw [HWL.out]; omega⟩
                      have HL9 : Aside0 (((ws1 ++ ls) ++ [l1, l2, l3]).length = nz + 3) := ⟨by rw [List.length_append, HWL.out]; rfl⟩
                      have HKP : Aside0 (∀ v W, TkP B (nz + 3) wf ((ws1 ++ ls) ++ [l1, l2, l3]) (.slice Y nz cY) v W → W.cell? ⟨p, 1, none⟩ = some (.slice Y nz cY) ∧ W.frozen? ⟨p, 1, none⟩ = false) := ⟨fun v W ⟨_, _, W0, _, hf0, _, hf, _⟩ => ⟨hf.cell (hf0.cell HD1.out id) HTY.out, blk_frozen (hf.heap (hf0.heap HBX.out id) HTY.out) 1⟩⟩
                      have HAD : Aside0 (∀ (W : World), TkR B (nz + 3) wf ((ws1 ++ ls) ++ [l1, l2, l3]) (.slice Y nz cY) p W →
                          ∃ vW' vL' ls' gs', ls'.length = 3 * (z + 1) ∧ gs'.length = 3 * (z + 1) ∧ TakeI w W B p n0 x (n0 + x + 3 * (z + 1)) ok vs M vW' vL' (ws1 ++ ls') (es1 ++ gs') (z + 1)) := ⟨fun W hR => by
                        obtain ⟨v1, w1, ⟨_, _, W0, -, hf0, hm, hf, ho⟩, rfl⟩ := hR
                        have HT6 := HT5.out.frN hf0
                        refine ⟨v1, .slice X1 (nz + 3) cX1, ls ++ [l1, l2, l3], gs ++ [slcOf (.slice D1 m1 c1), slcOf (.slice D2 m2 c2), slcOf (.slice D3 m3 c3)], ?_, ?_, ?_⟩
                        rotate_left 2
                        · rw [← List.append_assoc, show n0 + x + 3 * (z + 1) = nz + 3 by have := HNZ.out; omega]
                          refine HT6.addW HOKP.out hm (by rw [HVW.out]; exact hf) (by rw [HVW.out]; exact ho) (fun t ht h1 => ?_)
                          have e7 : (ws1 ++ ls).length = (es1 ++ gs).length := by rw [HWL.out, HEL.out]
                          have : t = 0 ∨ t = 1 ∨ t = 2 := by simp at ht; omega
                          simp only [← List.append_assoc es1, e7]
                          rw [List.getElem_append_right (by omega)]
                          simp only [Nat.add_sub_cancel_left]
                          rcases this with rfl | rfl | rfl
                          · exact HE1.out.frS hf0 (fun _ _ => id)
                          · exact HE2.out.frS hf0 (fun _ _ => id)
                          · exact HE3.out.frS hf0 (fun _ _ => id)
                        · rw [List.length_append, HLS.out]; simp; omega
                        · rw [List.length_append, HGS.out]; simp; omega⟩
                      have HYL : Aside0 (∀ k, (Value.slice Y nz cY).ownBlock = some k → k < wf.heap.size) := ⟨fun k hk => Kd.R_lt (HRW.out wf (Fr.refl _ _)) k hk⟩
                      have HPL : Aside0 (p < wf.heap.size) := ⟨(Array.getElem?_eq_some_iff.1 HBX.out).1⟩
                      clear hE1 hE2 hE3 hc1 hc2 hc3 d1 hpz HT5 HG1 HG2 HG3 HVW
                      refine region_jb (by kernel_rfl) 170 rfl tkSl [153, 154, 155, 156, 157, 158, 159, 160, 161, 162, 163, 164, 165, 166, 167] 0 (tkF wf.heap.size p nz cY Y D1 D2 D3 m1 m2 m3 c1 c2 c3 l1 l2 l3) (AppF 12 15 165 wf (TkP B (nz + 3) wf ((ws1 ++ ls) ++ [l1, l2, l3]) (.slice Y nz cY)) (TkR B (nz + 3) wf ((ws1 ++ ls) ++ [l1, l2, l3]) (.slice Y nz cY) p)) (fun vs => AppF.start _ vs (Fr.refl No wf).drew) (by decide +kernel) (by decide +kernel) (by decide +kernel) ?_ ?_
                      · intro listed vs W i o b hj ho hu hb hin hout hyl K hK
                        have hlt : i < 16 := (Array.getElem?_eq_some_iff.1 ho).1
                        have : i = 0 ∨ i = 1 ∨ i = 2 ∨ i = 3 ∨ i = 4 ∨ i = 5 ∨ i = 6 ∨ i = 7 ∨ i = 8 ∨ i = 9 ∨ i = 10 ∨ i = 11 ∨ i = 12 ∨ i = 13 ∨ i = 14 ∨ i = 15 := by omega
                        rcases this with rfl | rfl | rfl | rfl | rfl | rfl | rfl | rfl | rfl | rfl | rfl | rfl | rfl | rfl | rfl | rfl
                        · obtain rfl := Option.some.inj (show some _ = some o from ho)
                          have HST := Aside0.mk (fun (v : Value) (w' : World) h1 h2 h3 => hK v w' h1 h2 h3)
                          have HJE := Aside0.mk hj.ext
                          have r0 : b.tmps[0]?.getD undef = .pointer (some ⟨p, 0, none⟩) := (hout 0 (by decide +kernel)).trans rfl
                          refine wpOp_of ho rfl ?_
                          clear hK ho hb hu hj hin hout hyl
                          go_simp
                          exact HST.out _ _ (fun _ _ _ _ h => h) rfl (HJE.out.keep 0 153 _ (by decide))
                        · obtain rfl := Option.some.inj (show some _ = some o from ho)
                          have HST := Aside0.mk (fun (v : Value) (w' : World) h1 h2 h3 => hK v w' h1 h2 h3)
                          have HJE := Aside0.mk hj.ext
                          have r0 : b.tmps[0]?.getD undef = .pointer (some ⟨p, 0, none⟩) := (hout 0 (by decide +kernel)).trans rfl
                          refine wpOp_of ho rfl ?_
                          clear hK ho hb hu hj hin hout hyl
                          go_simp
                          exact HST.out _ _ (fun _ _ _ _ h => h) rfl (HJE.out.keep 1 154 _ (by decide))
                        · obtain rfl := Option.some.inj (show some _ = some o from ho)
                          have e1 : tkF wf.heap.size p nz cY Y D1 D2 D3 m1 m2 m3 c1 c2 c3 l1 l2 l3 1 (vs 154) W := hj.all 1 (by decide) (hb ⟨1, .data⟩ (by simp) rfl) (fun h => absurd h (by decide))
                          replace e1 : vs 154 = .pointer (some ⟨p, 0, none⟩) := e1
                          have HST := Aside0.mk (fun (v : Value) (w' : World) h1 h2 h3 => hK v w' h1 h2 h3)
                          have HJE := Aside0.mk hj.ext
                          have r154 : b.tmps[154]?.getD undef = .pointer (some ⟨p, 0, none⟩) := (hin 154 (by decide +kernel)).trans e1
                          refine wpOp_of ho rfl ?_
                          clear hK ho hb hu hj hin hout hyl
                          go_simp
                          exact HST.out _ _ (fun _ _ _ _ h => h) rfl (HJE.out.keep 2 155 _ (by decide))
                        · obtain rfl := Option.some.inj (show some _ = some o from ho)
                          have e2 : tkF wf.heap.size p nz cY Y D1 D2 D3 m1 m2 m3 c1 c2 c3 l1 l2 l3 2 (vs 155) W := hj.all 2 (by decide) (hb ⟨2, .data⟩ (by simp) rfl) (fun h => absurd h (by decide))
                          replace e2 : vs 155 = .pointer (some ⟨p, 0, none⟩) := e2
                          have HST := Aside0.mk (fun (v : Value) (w' : World) h1 h2 h3 => hK v w' h1 h2 h3)
                          have HJE := Aside0.mk hj.ext
                          have r155 : b.tmps[155]?.getD undef = .pointer (some ⟨p, 0, none⟩) := (hin 155 (by decide +kernel)).trans e2
                          refine wpOp_of ho rfl ?_
                          clear hK ho hb hu hj hin hout hyl
                          go_simp
                          exact HST.out _ _ (fun _ _ _ _ h => h) rfl (HJE.out.keep 3 156 _ (by decide))
                        · obtain rfl := Option.some.inj (show some _ = some o from ho)
                          have e3 : tkF wf.heap.size p nz cY Y D1 D2 D3 m1 m2 m3 c1 c2 c3 l1 l2 l3 3 (vs 156) W := hj.all 3 (by decide) (hb ⟨3, .data⟩ (by simp) rfl) (fun h => absurd h (by decide))
                          replace e3 : vs 156 = .pointer (some ⟨p, 1, none⟩) := e3
                          have HST := Aside0.mk (fun (v : Value) (w' : World) h1 h2 h3 => hK v w' h1 h2 h3)
                          have HJE := Aside0.mk hj.ext
                          have hl12 : listed.getD 12 false = false := by
                            cases hc : listed.getD 12 false with
                            | false => rfl
                            | true => exact absurd (hj.dep 12 _ rfl hc ⟨4, .data⟩ (by simp) rfl) (by rw [hu]; decide)
                          have HWF := Aside0.mk (hj.ext.a hl12)
                          clear hl12
                          have r156 : b.tmps[156]?.getD undef = .pointer (some ⟨p, 1, none⟩) := (hin 156 (by decide +kernel)).trans e3
                          refine wpOp_of ho rfl ?_
                          clear hK ho hb hu hj hin hout hyl
                          have hq := HWF.out.cell HD1.out id
                          go_simp
                          exact HST.out _ _ (fun _ _ _ _ h => h) rfl (HJE.out.keep 4 157 _ (by decide))
                        · obtain rfl := Option.some.inj (show some _ = some o from ho)
                          have HST := Aside0.mk (fun (v : Value) (w' : World) h1 h2 h3 => hK v w' h1 h2 h3)
                          have HJE := Aside0.mk hj.ext
                          have r10 : b.tmps[10]?.getD undef = .slice D1 m1 c1 := (hout 10 (by decide +kernel)).trans rfl
                          refine wpOp_of ho rfl ?_
                          clear hK ho hb hu hj hin hout hyl
                          go_simp
                          exact HST.out _ _ (fun _ _ _ _ h => h) rfl (HJE.out.keep 5 158 _ (by decide))
                        · obtain rfl := Option.some.inj (show some _ = some o from ho)
                          have e5 : tkF wf.heap.size p nz cY Y D1 D2 D3 m1 m2 m3 c1 c2 c3 l1 l2 l3 5 (vs 158) W := hj.all 5 (by decide) (hb ⟨5, .data⟩ (by simp) rfl) (fun h => absurd h (by decide))
                          replace e5 : vs 158 = .slice D1 m1 c1 := e5
                          have HST := Aside0.mk (fun (v : Value) (w' : World) h1 h2 h3 => hK v w' h1 h2 h3)
                          have HJE := Aside0.mk hj.ext
                          have hl11 : listed.getD 11 false = false := by
                            cases hc : listed.getD 11 false with
                            | false => rfl
                            | true => exact absurd (hj.dep 11 _ rfl hc ⟨6, .data⟩ (by simp) rfl) (by rw [hu]; decide)
                          have hl12 : listed.getD 12 false = false := by
                            cases hc : listed.getD 12 false with
                            | false => rfl
                            | true => exact absurd (hj.dep 12 _ rfl hc ⟨11, .data⟩ (by simp) rfl) (by rw [hl11]; decide)
                          clear hl11
                          have HWF := Aside0.mk (hj.ext.a hl12)
                          clear hl12
                          have r158 : b.tmps[158]?.getD undef = .slice D1 m1 c1 := (hin 158 (by decide +kernel)).trans e5
                          refine wpOp_of ho rfl ?_
                          clear hK ho hb hu hj hin hout hyl
                          have hq := HC1.out W HWF.out
                          go_simp
                          exact HST.out _ _ (fun _ _ _ _ h => h) rfl (HJE.out.keep 6 159 _ (by decide))
                        · obtain rfl := Option.some.inj (show some _ = some o from ho)
                          have HST := Aside0.mk (fun (v : Value) (w' : World) h1 h2 h3 => hK v w' h1 h2 h3)
                          have HJE := Aside0.mk hj.ext
                          have r11 : b.tmps[11]?.getD undef = .slice D2 m2 c2 := (hout 11 (by decide +kernel)).trans rfl
                          refine wpOp_of ho rfl ?_
                          clear hK ho hb hu hj hin hout hyl
                          go_simp
                          exact HST.out _ _ (fun _ _ _ _ h => h) rfl (HJE.out.keep 7 160 _ (by decide))
                        · obtain rfl := Option.some.inj (show some _ = some o from ho)
                          have e7 : tkF wf.heap.size p nz cY Y D1 D2 D3 m1 m2 m3 c1 c2 c3 l1 l2 l3 7 (vs 160) W := hj.all 7 (by decide) (hb ⟨7, .data⟩ (by simp) rfl) (fun h => absurd h (by decide))
                          replace e7 : vs 160 = .slice D2 m2 c2 := e7
                          have HST := Aside0.mk (fun (v : Value) (w' : World) h1 h2 h3 => hK v w' h1 h2 h3)
                          have HJE := Aside0.mk hj.ext
                          have hl11 : listed.getD 11 false = false := by
                            cases hc : listed.getD 11 false with
                            | false => rfl
                            | true => exact absurd (hj.dep 11 _ rfl hc ⟨8, .data⟩ (by simp) rfl) (by rw [hu]; decide)
                          have hl12 : listed.getD 12 false = false := by
                            cases hc : listed.getD 12 false with
                            | false => rfl
                            | true => exact absurd (hj.dep 12 _ rfl hc ⟨11, .data⟩ (by simp) rfl) (by rw [hl11]; decide)
                          clear hl11
                          have HWF := Aside0.mk (hj.ext.a hl12)
                          clear hl12
                          have r160 : b.tmps[160]?.getD undef = .slice D2 m2 c2 := (hin 160 (by decide +kernel)).trans e7
                          refine wpOp_of ho rfl ?_
                          clear hK ho hb hu hj hin hout hyl
                          have hq := HC2.out W HWF.out
                          go_simp
                          exact HST.out _ _ (fun _ _ _ _ h => h) rfl (HJE.out.keep 8 161 _ (by decide))
                        · obtain rfl := Option.some.inj (show some _ = some o from ho)
                          have HST := Aside0.mk (fun (v : Value) (w' : World) h1 h2 h3 => hK v w' h1 h2 h3)
                          have HJE := Aside0.mk hj.ext
                          have r12 : b.tmps[12]?.getD undef = .slice D3 m3 c3 := (hout 12 (by decide +kernel)).trans rfl
                          refine wpOp_of ho rfl ?_
                          clear hK ho hb hu hj hin hout hyl
                          go_simp
                          exact HST.out _ _ (fun _ _ _ _ h => h) rfl (HJE.out.keep 9 162 _ (by decide))
                        · obtain rfl := Option.some.inj (show some _ = some o from ho)
                          have e9 : tkF wf.heap.size p nz cY Y D1 D2 D3 m1 m2 m3 c1 c2 c3 l1 l2 l3 9 (vs 162) W := hj.all 9 (by decide) (hb ⟨9, .data⟩ (by simp) rfl) (fun h => absurd h (by decide))
                          replace e9 : vs 162 = .slice D3 m3 c3 := e9
                          have HST := Aside0.mk (fun (v : Value) (w' : World) h1 h2 h3 => hK v w' h1 h2 h3)
                          have HJE := Aside0.mk hj.ext
                          have hl11 : listed.getD 11 false = false := by
                            cases hc : listed.getD 11 false with
                            | false => rfl
                            | true => exact absurd (hj.dep 11 _ rfl hc ⟨10, .data⟩ (by simp) rfl) (by rw [hu]; decide)
                          have hl12 : listed.getD 12 false = false := by
                            cases hc : listed.getD 12 false with
                            | false => rfl
                            | true => exact absurd (hj.dep 12 _ rfl hc ⟨11, .data⟩ (by simp) rfl) (by rw [hl11]; decide)
                          clear hl11
                          have HWF := Aside0.mk (hj.ext.a hl12)
                          clear hl12
                          have r162 : b.tmps[162]?.getD undef = .slice D3 m3 c3 := (hin 162 (by decide +kernel)).trans e9
                          refine wpOp_of ho rfl ?_
                          clear hK ho hb hu hj hin hout hyl
                          have hq := HC3.out W HWF.out
                          go_simp
                          exact HST.out _ _ (fun _ _ _ _ h => h) rfl (HJE.out.keep 10 163 _ (by decide))
                        · obtain rfl := Option.some.inj (show some _ = some o from ho)
                          have e6 : tkF wf.heap.size p nz cY Y D1 D2 D3 m1 m2 m3 c1 c2 c3 l1 l2 l3 6 (vs 159) W := hj.all 6 (by decide) (hb ⟨6, .data⟩ (by simp) rfl) (fun h => absurd h (by decide))
                          replace e6 : vs 159 = .string ⟨l1.toArray⟩ := e6
                          have e8 : tkF wf.heap.size p nz cY Y D1 D2 D3 m1 m2 m3 c1 c2 c3 l1 l2 l3 8 (vs 161) W := hj.all 8 (by decide) (hb ⟨8, .data⟩ (by simp) rfl) (fun h => absurd h (by decide))
                          replace e8 : vs 161 = .string ⟨l2.toArray⟩ := e8
                          have e10 : tkF wf.heap.size p nz cY Y D1 D2 D3 m1 m2 m3 c1 c2 c3 l1 l2 l3 10 (vs 163) W := hj.all 10 (by decide) (hb ⟨10, .data⟩ (by simp) rfl) (fun h => absurd h (by decide))
                          replace e10 : vs 163 = .string ⟨l3.toArray⟩ := e10
                          have HST := Aside0.mk (fun (v : Value) (w' : World) h1 h2 h3 => hK v w' h1 h2 h3)
                          have HJE := Aside0.mk hj.ext
                          have hl12 : listed.getD 12 false = false := by
                            cases hc : listed.getD 12 false with
                            | false => rfl
                            | true => exact absurd (hj.dep 12 _ rfl hc ⟨11, .data⟩ (by simp) rfl) (by rw [hu]; decide)
                          have hl15 : listed.getD 15 false = false := by
                            cases hc : listed.getD 15 false with
                            | false => rfl
                            | true => exact absurd (hj.dep 15 _ rfl hc ⟨12, .data⟩ (by simp) rfl) (by rw [hl12]; decide)
                          have HWZ := Aside0.mk (hj.ext.a hl12).size
                          have H12 := Aside0.mk hl12
                          have H15 := Aside0.mk hl15
                          clear hl12 hl15
                          have r159 : b.tmps[159]?.getD undef = .string ⟨l1.toArray⟩ := (hin 159 (by decide +kernel)).trans e6
                          have r161 : b.tmps[161]?.getD undef = .string ⟨l2.toArray⟩ := (hin 161 (by decide +kernel)).trans e8
                          have r163 : b.tmps[163]?.getD undef = .string ⟨l3.toArray⟩ := (hin 163 (by decide +kernel)).trans e10
                          refine wpOp_of ho rfl ?_
                          clear hK ho hb hu hj hin hout hyl
                          go_simp
                          exact HST.out _ _ (fun _ _ _ _ h => tkF_fr h ((Fr.refl No W).alloc _) (fun _ h => h.elim)) ⟨_, rfl, HWZ.out, heap_alloc_new W _⟩ (HJE.out.keepF H12.out H15.out 11 164 _ (by decide) ((Fr.refl No W).alloc _))
                        · obtain rfl := Option.some.inj (show some _ = some o from ho)
                          have e4 : tkF wf.heap.size p nz cY Y D1 D2 D3 m1 m2 m3 c1 c2 c3 l1 l2 l3 4 (vs 157) W := hj.all 4 (by decide) (hb ⟨4, .data⟩ (by simp) rfl) (fun h => absurd h (by decide))
                          replace e4 : vs 157 = .slice Y nz cY := e4
                          have e11 : tkF wf.heap.size p nz cY Y D1 D2 D3 m1 m2 m3 c1 c2 c3 l1 l2 l3 11 (vs 164) W := hj.all 11 (by decide) (hb ⟨11, .data⟩ (by simp) rfl) (fun h => absurd h (by decide))
                          have HST := Aside0.mk (fun (v : Value) (w' : World) h1 h2 h3 => hK v w' h1 h2 h3)
                          have HWF := Aside0.mk (hj.ext.a hu)
                          have HSZ := Aside0.mk hj.size
                          have h15 : listed.getD 15 false = false := by
                            cases hc : listed.getD 15 false with
                            | false => rfl
                            | true => exact absurd (hj.dep 15 _ rfl hc ⟨12, .data⟩ (by simp) rfl) (by rw [hu]; decide)
                          have H15 := Aside0.mk h15
                          clear h15
                          obtain ⟨g, e11, hgz, hcg⟩ := e11
                          have HCG := Aside0.mk (litS3_of hcg)
                          clear hgz
                          clear hcg
                          have r164 : b.tmps[164]?.getD undef = .slice (some ⟨g, 0, none⟩) 3 3 := (hin 164 (by decide +kernel)).trans e11
                          have r157 : b.tmps[157]?.getD undef = .slice Y nz cY := (hin 157 (by decide +kernel)).trans e4
                          refine wpOp_of ho rfl ?_
                          clear hK ho hb hu hj hin hout hyl
                          refine app_scalar_at (enc := fun l : List UInt8 => Value.string ⟨l.toArray⟩) (h1 := fun _ => rfl) B rfl (.tmp 157) (.tmp 164) 42 9 (.string ByteArray.empty) 16 (by rfl) Tryd.underlying42 infoStr rfl (by decide) (.slice Y nz cY) (ws1 ++ ls) [l1, l2, l3] _ 3 _ (eval_slot r157) (eval_slot r164) (HRW.out W HWF.out) HCG.out (HBZ.out W HWF.out) HLL.out ?_
                          intro v1 w1 hm hf ho2
                          obtain ⟨X1, cX1, hvv, -, -⟩ := Kd.R_reads hm
                          rw [HL9.out] at hvv
                          exact HST.out v1 w1 (fun _ _ _ _ h => tkF_fr h hf (fun k hk => HYL.out k hk)) trivial (AppF.app HSZ.out (by decide) (by decide) H15.out v1 ⟨X1, cX1, W, hvv, HWF.out, hm, hf, ho2⟩)
                        · obtain rfl := Option.some.inj (show some _ = some o from ho)
                          have e0 : tkF wf.heap.size p nz cY Y D1 D2 D3 m1 m2 m3 c1 c2 c3 l1 l2 l3 0 (vs 153) W := hj.all 0 (by decide) (hb ⟨0, .data⟩ (by simp) rfl) (fun h => absurd h (by decide))
                          replace e0 : vs 153 = .pointer (some ⟨p, 0, none⟩) := e0
                          have HST := Aside0.mk (fun (v : Value) (w' : World) h1 h2 h3 => hK v w' h1 h2 h3)
                          have HJE := Aside0.mk hj.ext
                          have r153 : b.tmps[153]?.getD undef = .pointer (some ⟨p, 0, none⟩) := (hin 153 (by decide +kernel)).trans e0
                          refine wpOp_of ho rfl ?_
                          clear hK ho hb hu hj hin hout hyl
                          go_simp
                          exact HST.out _ _ (fun _ _ _ _ h => h) rfl (HJE.out.keep 13 166 _ (by decide))
                        · obtain rfl := Option.some.inj (show some _ = some o from ho)
                          have e13 : tkF wf.heap.size p nz cY Y D1 D2 D3 m1 m2 m3 c1 c2 c3 l1 l2 l3 13 (vs 166) W := hj.all 13 (by decide) (hb ⟨13, .data⟩ (by simp) rfl) (fun h => absurd h (by decide))
                          replace e13 : vs 166 = .pointer (some ⟨p, 0, none⟩) := e13
                          have HST := Aside0.mk (fun (v : Value) (w' : World) h1 h2 h3 => hK v w' h1 h2 h3)
                          have HJE := Aside0.mk hj.ext
                          have r166 : b.tmps[166]?.getD undef = .pointer (some ⟨p, 0, none⟩) := (hin 166 (by decide +kernel)).trans e13
                          refine wpOp_of ho rfl ?_
                          clear hK ho hb hu hj hin hout hyl
                          go_simp
                          exact HST.out _ _ (fun _ _ _ _ h => h) rfl (HJE.out.keep 14 167 _ (by decide))
                        · obtain rfl := Option.some.inj (show some _ = some o from ho)
                          have e14 : tkF wf.heap.size p nz cY Y D1 D2 D3 m1 m2 m3 c1 c2 c3 l1 l2 l3 14 (vs 167) W := hj.all 14 (by decide) (hb ⟨14, .data⟩ (by simp) rfl) (fun h => absurd h (by decide))
                          replace e14 : vs 167 = .pointer (some ⟨p, 1, none⟩) := e14
                          have HST := Aside0.mk (fun (v : Value) (w' : World) h1 h2 h3 => hK v w' h1 h2 h3)
                          have h12 := hb ⟨12, .data⟩ (by simp) rfl
                          have HAP := Aside0.mk (hj.ext.b h12 hu)
                          have H12 := Aside0.mk h12
                          have HSZ := Aside0.mk hj.size
                          clear h12
                          obtain ⟨A9, c9, -, e165, -⟩ := HAP.out
                          have HV9 := Aside0.mk e165
                          have r165 : b.tmps[165]?.getD undef = .slice A9 (nz + 3) c9 := (hin 165 (by decide +kernel)).trans e165
                          clear e165
                          have r167 : b.tmps[167]?.getD undef = .pointer (some ⟨p, 1, none⟩) := (hin 167 (by decide +kernel)).trans e14
                          refine wpOp_of ho rfl ?_
                          clear hK ho hb hu hj hin hout hyl
                          obtain ⟨hcz, hfz⟩ := HKP.out _ W HAP.out
                          go_simp
                          rw [← HV9.out]
                          exact HST.out undef _ (fun _ _ _ _ h => tkF_fr h ((Fr.refl (fun k => k = p) W).setCell (.inl rfl) _) (fun k hk => by rw [hk]; exact HPL.out)) trivial (AppF.fin HSZ.out (by decide) (by decide) H12.out 9999 undef ⟨_, W, HAP.out, rfl⟩)
                      · intro vs W hall hext
                        obtain ⟨listed, hal, hE⟩ := hext
                        have HFP := Aside0.mk (hE.d (hal 15 (by decide)))
                        clear hall hal hE listed
                        simp only [Jact_lit, List.foldl_cons, List.foldl_nil, List.setIfInBounds_toArray, List.set_cons_succ, List.set_cons_zero]
                        generalize vs 153 = x153
                        generalize vs 154 = x154
                        generalize vs 155 = x155
                        generalize vs 156 = x156
                        generalize vs 157 = x157
                        generalize vs 158 = x158
                        generalize vs 159 = x159
                        generalize vs 160 = x160
                        generalize vs 161 = x161
                        generalize vs 162 = x162
                        generalize vs 163 = x163
                        generalize vs 164 = x164
                        generalize vs 165 = x165
                        generalize vs 166 = x166
                        generalize vs 167 = x167
                        clear vs
                        have HNEW := Aside0.mk (HAD.out W HFP.out)
                        clear HFP
                        go_wp2_with fail
                        exact ⟨⟨z + 1, by omega, by go_num, HNEW⟩, by simp [intOf]; omega⟩
            · obtain rfl : z = x := by omega
              obtain ⟨vW3, vL3, ls, gs, hls, hgs, hT⟩ := HI.out
              have HT := Aside0.mk hT; have HLS := Aside0.mk hls; have HGS := Aside0.mk hgs
              clear hT hls hgs
              go_wp2_with fail
              refine (still_calls wr B p (n0 + z + 3 * z) vW3 vL3 (ws1 ++ ls) (es1 ++ gs) HT.out.s (by rw [List.length_append, List.length_append, HES.out, HWS.out, HLS.out, HGS.out]) (by rw [List.length_append, HES.out, HGS.out]; omega) HT.out.el).mono ?_
              rintro e w2 ⟨rfl, hf⟩
              have HT2 := Aside0.mk (HT.out.frN hf)
              clear hf HT
              go_wp2_with fail
              go_ret
              refine ⟨rfl, ⟨vW3, vL3, ws1 ++ ls, es1 ++ gs, ?_⟩, HT2.out.fr⟩
              have h5 := HT2.out
              refine ⟨by rw [show n0 + 4 * z = n0 + z + 3 * z by omega]; exact h5.s, by rw [List.length_append, HWS.out, HLS.out]; omega, by rw [List.length_append, HES.out, HGS.out]; omega, ⟨.inl HOKP.out, HBP.out⟩, fun k hk => (h5.okW k hk).imp id .inr, fun k hk => (h5.okL k hk).imp id .inr, h5.el, fun q h1 ad e => ⟨?_, h5.sep q h1 ad e⟩⟩
              rcases h5.eok q h1 ad e with h6 | h6 | ⟨j, hj, h6, -⟩
              · exact .inl h6
              · exact .inr (.inr h6)
              · exact .inr (.inl ⟨j, hj, h6⟩)
end Go.Proofs.YtbaeddppihjgfaaDoor.Sg
