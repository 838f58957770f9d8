/- The law DigestBook: the book and the lists of lists, between the steps of its loop. -/
import Derived.Test.YtbaeddppihjgfaaDoorBookTake
import Derived.Test.YtbaeddppihjgfaaDoorMgLst
namespace Go.Proofs.YtbaeddppihjgfaaDoor.Sg
open Go Go.RowKit Go.Proofs.YtbaeddppihjgfaaDoorW.PrintWords
set_option linter.unusedVariables false
/-- The lists of lists: each an array of its own, none of them of the book's. -/
structure OutW (w : World) (B : Nat) (ok : Nat → Prop) (vO : Value) (os : List Slc) (cs : Nat → List Slc) : Prop where
  arr : Kd.R KV 34 w B (fun _ => True) vO os
  own : ∀ k, vO.ownBlock = some k → ¬ ok k
  rows : ArrF w B os.length (rowV os) cs
  rok : ∀ k, OwnD os.length (rowV os) k → ¬ ok k
  sm : ∀ j, (cs j).length ≤ 60000
/-- The book at p, of the blocks ok; the lists of lists. -/
structure BkI (w wr : World) (p : Nat) (ok : Nat → Prop) (N : Nat) (vO : Value) (os : List Slc) (cs : Nat → List Slc) : Prop where
  bk : ∃ vW vL ws es, BookW wr w.heap.size p N ok vW vL ws es
  okb : ∀ k, ok k → w.heap.size ≤ k ∧ k < wr.heap.size
  fr : Fr No w wr
  out : OutW wr w.heap.size ok vO os cs
theorem BookW.frN {w w1 : World} {B p n : Nat} {ok : Nat → Prop} {vW vL : Value} {ws : List (List UInt8)} {es : List Slc} (h : BookW w B p n ok vW vL ws es) (hf : Fr No w w1) : BookW w1 B p n ok vW vL ws es :=
  ⟨h.s.fr hf id (fun _ _ => id) (fun _ _ => id), h.lw, h.le, h.okp, h.okW, h.okL, fun q h1 h2 => (h.el q h1 h2).frS hf (fun _ _ => id), fun q h1 ad e => by have h3 := h.eok q h1 ad e; have := hf.size; exact ⟨h3.1, by omega, h3.2.2⟩⟩
/-- Changes elsewhere. -/
theorem BookW.frS {S : Nat → Prop} {w w1 : World} {B p n : Nat} {ok : Nat → Prop} {vW vL : Value} {ws : List (List UInt8)} {es : List Slc} (h : BookW w B p n ok vW vL ws es) (hf : Fr S w w1) (hS : ∀ k, ok k → ¬ S k) : BookW w1 B p n ok vW vL ws es :=
  ⟨h.s.fr hf (hS p h.okp.1) (fun k hk => hS k (h.okW k hk)) (fun k hk => hS k (h.okL k hk)), h.lw, h.le, h.okp, h.okW, h.okL, fun q h1 h2 => (h.el q h1 h2).frS hf (fun ad e => hS _ (h.eok q h1 ad e).1), fun q h1 ad e => by have h3 := h.eok q h1 ad e; have := hf.size; exact ⟨h3.1, by omega, h3.2.2⟩⟩
theorem BookW.to {w : World} {B p n : Nat} {ok ok' : Nat → Prop} {vW vL : Value} {ws : List (List UInt8)} {es : List Slc} (h : BookW w B p n ok vW vL ws es) (ho : ∀ k, ok k → k < w.heap.size → ok' k) : BookW w B p n ok' vW vL ws es := by
  obtain ⟨i1, o1⟩ := Kd.R_own h.s.want
  obtain ⟨i2, o2⟩ := Kd.R_own h.s.lists
  exact ⟨h.s, h.lw, h.le, ⟨ho p h.okp.1 (Array.getElem?_eq_some_iff.1 h.s.box).1, h.okp.2⟩, fun k hk => ho k (h.okW k hk) (own_lt o1 k hk), fun k hk => ho k (h.okL k hk) (own_lt o2 k hk), h.el, fun q h1 ad e => by have h3 := h.eok q h1 ad e; exact ⟨ho _ h3.1 h3.2.1, h3.2⟩⟩
theorem OutW.fr {S : Nat → Prop} {w w1 : World} {B : Nat} {ok ok' : Nat → Prop} {vO : Value} {os : List Slc} {cs : Nat → List Slc} (h : OutW w B ok vO os cs) (hf : Fr S w w1) (h1 : ∀ k, vO.ownBlock = some k ∨ OwnD os.length (rowV os) k → ¬ S k) (h2 : ∀ k, vO.ownBlock = some k ∨ OwnD os.length (rowV os) k → ¬ ok' k) : OutW w1 B ok' vO os cs :=
  ⟨scalar_fr h.arr hf (fun k hk => h1 k (.inl hk)), fun k hk => h2 k (.inl hk), h.rows.fr hf (fun k hk => h1 k (.inr hk)), fun k hk => h2 k (.inr hk), h.sm⟩
theorem OutW.lt {w : World} {B : Nat} {ok : Nat → Prop} {vO : Value} {os : List Slc} {cs : Nat → List Slc} (h : OutW w B ok vO os cs) {k : Nat} (hk : vO.ownBlock = some k ∨ OwnD os.length (rowV os) k) : B ≤ k ∧ k < w.heap.size := by
  rcases hk with hk | hk
  · exact ownS_lt h.arr k hk
  · exact h.rows.lt hk
theorem OutW.not_ok {w : World} {B : Nat} {ok : Nat → Prop} {vO : Value} {os : List Slc} {cs : Nat → List Slc} (h : OutW w B ok vO os cs) (k : Nat) (hk : vO.ownBlock = some k ∨ OwnD os.length (rowV os) k) : ¬ ok k := by
  rcases hk with hk | hk
  · exact h.own k hk
  · exact h.rok k hk
theorem arr_not_row {w : World} {B B2 n m : Nat} {vs us : Nat → Value} {es : Nat → List Slc} {rs : Nat → List UInt8} (h1 : ArrF w B n vs es) (h2 : RowsF w B2 m us rs) (k : Nat) (hk : OwnD n vs k) : ¬ OwnD m us k := fun hk2 => by
  obtain ⟨i, hi, e1⟩ := hk
  obtain ⟨j, hj, e2⟩ := hk2
  obtain ⟨i1, o1⟩ := Kd.R_own (h1.mine i hi)
  obtain ⟨i2, o2⟩ := Kd.R_own (h2.mine j hj)
  exact ne_types o1 o2 (by decide) k e1 e2
section
variable {w wr w1 : World} {p N : Nat} {ok : Nat → Prop} {vO : Value} {os : List Slc} {cs : Nat → List Slc}
theorem BkI.frN (h : BkI w wr p ok N vO os cs) (hf : Fr No wr w1) : BkI w w1 p ok N vO os cs := by
  obtain ⟨vW, vL, ws, es, hb⟩ := h.bk
  exact ⟨⟨vW, vL, ws, es, hb.frN hf⟩, fun k hk => by have := h.okb k hk; have := hf.size; omega, h.fr.then_ hf, h.out.fr hf (fun _ _ => id) h.out.not_ok⟩
theorem BkI.still_calls (h : BkI w wr p ok N vO os cs) (hN : N ≤ 1000000000) : Calls Tryd.prog 48 #[.pointer (some ⟨p, 0, none⟩)] wr fun e w' => e = .returned (.bool true) ∧ Fr No wr w' := by
  obtain ⟨vW, vL, ws, es, hb⟩ := h.bk
  exact Sg.still_calls wr w.heap.size p N vW vL ws es hb.s (by rw [hb.le, hb.lw]) (by rw [hb.le]; omega) hb.el
/-- Rows handed to the book. -/
theorem BkI.take_calls (h : BkI w wr p ok N vO os cs) (hN : N ≤ 1000000000) {A : Option Addr} {c n : Nat} {vs : Nat → Value} {rs : Nat → List UInt8} (hr : RowsF wr w.heap.size n vs rs) (hA : ∀ i, i < n → ∃ ad, A = some ad ∧ wr.cell? (ad.add i) = some (vs i)) (hAf : ∀ ad, A = some ad → ¬ ok ad.block ∧ ¬ OwnD n vs ad.block) (hD : ∀ k, OwnD n vs k → ¬ ok k) (hn : n ≤ 100000) (hl : ∀ j, (rs j).length ≤ 67108864) :
    Calls Tryd.prog 51 #[.pointer (some ⟨p, 0, none⟩), .slice A n c] wr fun e w' => e = .returned (.bool true) ∧ BkI w w' p (fun k => (ok k ∨ OwnD n vs k ∨ wr.heap.size ≤ k) ∧ k < w'.heap.size) (N + 4 * n) vO os cs ∧ Fr (fun k => ok k ∨ OwnD n vs k) wr w' := by
  obtain ⟨vW, vL, ws, es, hb⟩ := h.bk
  refine (Sg.take_calls wr w.heap.size p N n ok vW vL ws es hb A c vs rs hr hA hAf hD hn hN hl h.fr.size).mono ?_
  rintro e w' ⟨rfl, ⟨vW', vL', ws', es', hb'⟩, hf⟩
  have hz := hf.size
  have hz0 := h.fr.size
  have hD2 : ∀ k, vO.ownBlock = some k ∨ OwnD os.length (rowV os) k → ¬ OwnD n vs k := fun k hk h2 => by
    rcases hk with hk | hk
    · obtain ⟨j, hj, e2⟩ := h2
      obtain ⟨i1, o1⟩ := Kd.R_own h.out.arr
      obtain ⟨i2, o2⟩ := Kd.R_own (hr.mine j hj)
      exact ne_types o1 o2 (by decide) k hk e2
    · exact arr_not_row h.out.rows hr k hk h2
  have hN2 : ∀ k, vO.ownBlock = some k ∨ OwnD os.length (rowV os) k → ¬ (ok k ∨ OwnD n vs k) := fun k hk h2 => h2.elim (h.out.not_ok k hk) (hD2 k hk)
  refine ⟨rfl, ⟨⟨vW', vL', ws', es', hb'.to (fun k hk hlt => ⟨hk, hlt⟩)⟩, fun k hk => ⟨?_, hk.2⟩, ?_, h.out.fr hf hN2 (fun k hk h2 => ?_)⟩, hf⟩
  · rcases hk.1 with h2 | h2 | h2
    · exact (h.okb k h2).1
    · exact (hr.lt h2).1
    · omega
  · exact h.fr.trans hf (fun k hk => .inr (hk.elim (fun h2 => (h.okb k h2).1) (fun h2 => (hr.lt h2).1)))
  · have hlt := (h.out.lt hk).2
    rcases h2.1 with h3 | h3 | h3
    · exact h.out.not_ok k hk h3
    · exact hD2 k hk h3
    · omega
/-- A list of lists more. -/
theorem BkI.push (h : BkI w wr p ok N vO os cs) {v1 : Value} {s : Slc} {es : List Slc} {W : World} (hfa : Fr No wr W) (hm : Kd.R KV 34 w1 w.heap.size (fun _ => True) v1 (os ++ [s])) (hf : Fr (fun k => vO.ownBlock = some k) W w1) (ho : v1.ownBlock = vO.ownBlock ∨ ∃ b, v1.ownBlock = some b ∧ W.heap.size ≤ b) (hs : Kd.R KV 22 wr w.heap.size (fun _ => True) (slcV s) es) (hsm : es.length ≤ 60000) (hok : ∀ k, (slcV s).ownBlock = some k → ¬ ok k ∧ ¬ OwnD os.length (rowV os) k) :
    BkI w w1 p ok N v1 (os ++ [s]) (fun j => if j = os.length then es else cs j) := by
  obtain ⟨vW, vL, ws, es2, hb⟩ := h.bk
  have hN := h.frN hfa
  have hz := hf.size
  have hza := hfa.size
  have hOk : ∀ k, ok k → ¬ vO.ownBlock = some k := fun k hk h2 => h.out.own k h2 hk
  have hrowT : ∀ {u : Value} {xs : List Slc}, Kd.R KV 22 wr w.heap.size (fun _ => True) u xs → Kd.R KV 22 w1 w.heap.size (fun _ => True) u xs := fun hu => by
    have hu2 := scalar_fr hu hfa (fun _ _ => id)
    refine scalar_fr hu2 hf (fun k hk h2 => ?_)
    obtain ⟨i1, o1⟩ := Kd.R_own hu2
    obtain ⟨i2, o2⟩ := Kd.R_own hN.out.arr
    exact ne_types o1 o2 (by decide) k hk h2
  have hrow : ∀ j, j < (os ++ [s]).length → (j < os.length ∧ rowV (os ++ [s]) j = rowV os j) ∨ (j = os.length ∧ rowV (os ++ [s]) j = slcV s) := fun j hj => by
    by_cases hj2 : j < os.length
    · exact .inl ⟨hj2, by rw [rowV_at _ _ hj, rowV_at _ _ hj2, List.getElem_append_left hj2]⟩
    · have : j = os.length := by simp at hj; omega
      subst this
      exact .inr ⟨rfl, by rw [rowV_at _ _ hj, List.getElem_append_right (Nat.le_refl _)]; simp⟩
  refine ⟨⟨vW, vL, ws, es2, (hb.frN hfa).frS hf hOk⟩, fun k hk => by have := h.okb k hk; omega, (h.fr.then_ hfa).trans hf (fun k hk => .inr (ownS_lt h.out.arr k hk).1), ⟨hm, fun k hk => ?_, ⟨fun j hj => ?_, fun i j hi hj hij k hk hk2 => ?_⟩, fun k hk => ?_, fun j => ?_⟩⟩
  · rcases ho with e | ⟨b, e, hb2⟩
    · exact h.out.own k (by rw [← e, hk])
    · rw [e] at hk; injection hk with hk; intro h2; have := (h.okb k h2).2; omega
  · rcases hrow j hj with ⟨h1, h2⟩ | ⟨h1, h2⟩
    · rw [h2, if_neg (by omega)]; exact hrowT (h.out.rows.mine j h1)
    · rw [h2, if_pos h1]; exact hrowT hs
  · rcases hrow i hi with ⟨h1, h2⟩ | ⟨h1, h2⟩ <;> rcases hrow j hj with ⟨g1, g2⟩ | ⟨g1, g2⟩ <;> rw [h2] at hk <;> rw [g2] at hk2
    · exact h.out.rows.sep i j h1 g1 hij k hk hk2
    · exact (hok k hk2).2 ⟨i, h1, hk⟩
    · exact (hok k hk).2 ⟨j, g1, hk2⟩
    · omega
  · obtain ⟨j, hj, e⟩ := hk
    rcases hrow j hj with ⟨h1, h2⟩ | ⟨h1, h2⟩ <;> rw [h2] at e
    · exact h.out.rok k ⟨j, h1, e⟩
    · exact (hok k e).1
  · split
    · exact hsm
    · exact h.out.sm j
end
end Go.Proofs.YtbaeddppihjgfaaDoor.Sg
