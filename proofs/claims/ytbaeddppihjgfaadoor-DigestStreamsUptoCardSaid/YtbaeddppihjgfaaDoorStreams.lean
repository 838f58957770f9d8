/- Several Hashes beside one another, in lists of the call's own: what the memory holds; each block has a label that tells whose it is. -/
import Derived.Test.YtbaeddppihjgfaaDoorRegionB
import Derived.Test.YtbaeddppihjgfaaDoorPiecesWalk
namespace Go.Proofs.YtbaeddppihjgfaaDoor.Sg
open Go Go.RowKit Go.Proofs.YtbaeddppihjgfaaDoorW.PrintWords
set_option linter.unusedVariables false
abbrev KP : Kd Nat := Kd.scalar (fun H : Nat => Value.pointer (some ⟨H, 0, none⟩)) (fun _ => rfl)
abbrev HL := List (Nat × List UInt8)
theorem infoPtr : (Tryd.prog.info? 31).map (fun i => (i.zero, i.size, i.bytes)) = some (some (.pointer none), 1, 8) := by kernel_rfl
/-- The list of Hashes (label 0), the list of what was added to each (label 1), Hash i (label i + 2). -/
structure StrS (base : Nat) (lab : Nat → Nat) (w : World) (va vh : Value) (hs : HL) : Prop where
  all : Kd.R KP 31 w base (fun k => base ≤ k ∧ lab k = 0) va (hs.map (·.1))
  held : Kd.S KB 22 w base (fun k => base ≤ k ∧ lab k = 1) vh ((hs.map (·.2)).map bi)
  hash : ∀ i (hi : i < hs.length), ∃ rv, HashOf w hs[i].1 hs[i].2 rv ∧ base ≤ hs[i].1 ∧ lab hs[i].1 = i + 2 ∧ ∀ k, rv.ownBlock = some k → base ≤ k ∧ lab k = i + 2
section
variable {base : Nat} {lab lab' : Nat → Nat} {w w' : World} {va vh : Value} {hs : HL} {S : Nat → Prop}
theorem StrS.relab (h : StrS base lab w va vh hs) (hl : ∀ k, k < w.heap.size → lab k < hs.length + 2 → lab' k = lab k) : StrS base lab' w va vh hs := by
  refine ⟨Kd.R_mono (Kd.R_bound h.all) (fun k hk => ⟨hk.1.1, by rw [hl k hk.2.2.1 (by have := hk.1.2; omega)]; exact hk.1.2⟩), Kd.S_mono (Kd.S_bound h.held) (fun k hk => ⟨hk.1.1, by rw [hl k hk.2.2.1 (by have := hk.1.2; omega)]; exact hk.1.2⟩), fun i hi => ?_⟩
  obtain ⟨rv, h1, h2, h3, h4⟩ := h.hash i hi
  exact ⟨rv, h1, h2, by rw [hl _ h1.blk.lt (by omega)]; exact h3, fun k hk => ⟨(h4 k hk).1, by rw [hl k (h1.rest.base k hk).2 (by have := (h4 k hk).2; omega)]; exact (h4 k hk).2⟩⟩
theorem StrS.fr (h : StrS base lab w va vh hs) (hf : Fr S w w') (hS : ∀ k, k < w.heap.size → S k → hs.length + 2 ≤ lab k) : StrS base lab w' va vh hs := by
  refine ⟨Kd.R_step h.all (fun k hk hlt => hf.block k hlt (fun hs => by have := hS k hlt hs; omega)), Kd.S_step h.held (fun k hk hlt => hf.block k hlt (fun hs => by have := hS k hlt hs; omega)), fun i hi => ?_⟩
  obtain ⟨rv, h1, h2, h3, h4⟩ := h.hash i hi
  exact ⟨rv, h1.fr hf (fun hs => by have := hS _ h1.blk.lt hs; omega) (fun k hk hs => by have := hS k (h1.rest.base k hk).2 hs; have := (h4 k hk).2; omega), h2, h3, h4⟩
theorem StrS.frN (h : StrS base lab w va vh hs) (hf : Fr No w w') : StrS base lab w' va vh hs := h.fr hf (fun _ _ hs => hs.elim)
theorem StrS.ptr (h : StrS base lab w va vh hs) (hp : 0 < hs.length) : ∃ g c, va = .slice (some ⟨g, 0, none⟩) hs.length c ∧ base ≤ g ∧ ∀ i (hi : i < hs.length), w.cell? ⟨g, i, none⟩ = some (.pointer (some ⟨hs[i].1, 0, none⟩)) := by
  obtain ⟨g, c, hv, hg, _⟩ := Kd.R_form h.all (by rw [List.length_map]; exact hp)
  rw [List.length_map] at hv
  subst hv
  refine ⟨g, c, rfl, hg, fun i hi => ?_⟩
  have := (Kd.R_celln (0 : Nat) h.all (i : Int) (by omega) (by omega)).1
  simpa [rdOf, List.getD_eq_getElem?_getD, List.getElem?_eq_getElem hi] using this
theorem StrS.rows (h : StrS base lab w va vh hs) (hp : 0 < hs.length) : ∃ g c, vh = .slice (some ⟨g, 0, none⟩) hs.length c ∧ base ≤ g ∧ lab g = 1 ∧ Rbs w (some ⟨g, 0, none⟩) (hs.map (·.2)) := by
  obtain ⟨g, c, hv, hg, _⟩ := Kd.S_form h.held (by rw [List.length_map, List.length_map]; exact hp)
  rw [List.length_map, List.length_map] at hv
  subst hv
  obtain ⟨A, c2, e, hl, hr⟩ := Kd.S_reads h.held
  rw [List.length_map] at e hl hr
  obtain ⟨rfl, _⟩ : some (⟨g, 0, none⟩ : Addr) = A ∧ c = c2 := by simpa using e
  exact ⟨g, c, rfl, hg, ((Kd.S_R h.held).1 g (by simp [Value.ownBlock])).2, hr⟩
theorem StrS.relabTo (h : StrS base lab w va vh hs) (L : Nat) : StrS base (fun k => if k < w.heap.size then lab k else L) w va vh hs := h.relab (fun k hk _ => if_pos hk)
/-- As StrS, but that Hash i holds l already. -/
structure StrM (base : Nat) (lab : Nat → Nat) (w : World) (va vh : Value) (hs : HL) (i : Nat) (l : List UInt8) : Prop where
  all : Kd.R KP 31 w base (fun k => base ≤ k ∧ lab k = 0) va (hs.map (·.1))
  held : Kd.S KB 22 w base (fun k => base ≤ k ∧ lab k = 1) vh ((hs.map (·.2)).map bi)
  hash : ∀ j (hj : j < hs.length), ∃ rv, HashOf w hs[j].1 (if j = i then l else hs[j].2) rv ∧ base ≤ hs[j].1 ∧ lab hs[j].1 = j + 2 ∧ ∀ k, rv.ownBlock = some k → base ≤ k ∧ lab k = j + 2
/-- Where Hash i's blocks alone were written, and it holds more. -/
theorem StrS.added (h : StrS base lab w va vh hs) (i : Nat) (hi : i < hs.length) (l : List UInt8) (hf : Fr S w w') (hS : ∀ k, k < w.heap.size → S k → lab k = i + 2) {rv : Value} (hH : HashOf w' hs[i].1 l rv)
    (hrv : ∀ k, rv.ownBlock = some k → base ≤ k ∧ lab k = i + 2) : StrM base lab w' va vh hs i l := by
  refine ⟨Kd.R_step h.all (fun k hk hlt => hf.block k hlt (fun hs => by have := hS k hlt hs; omega)), Kd.S_step h.held (fun k hk hlt => hf.block k hlt (fun hs => by have := hS k hlt hs; omega)), fun j hj => ?_⟩
  obtain ⟨rv0, h1, h2, h3, h4⟩ := h.hash j hj
  by_cases e : j = i
  · subst e
    rw [if_pos rfl]
    exact ⟨rv, hH, h2, h3, hrv⟩
  · rw [if_neg e]
    exact ⟨rv0, h1.fr hf (fun hs => by have := hS _ h1.blk.lt hs; omega) (fun k hk hs => by have := hS k (h1.rest.base k hk).2 hs; have := (h4 k hk).2; omega), h2, h3, h4⟩
theorem StrM.fr {i : Nat} {l : List UInt8} (h : StrM base lab w va vh hs i l) (hf : Fr S w w') (hS : ∀ k, k < w.heap.size → S k → hs.length + 2 ≤ lab k) : StrM base lab w' va vh hs i l := by
  refine ⟨Kd.R_step h.all (fun k hk hlt => hf.block k hlt (fun hs => by have := hS k hlt hs; omega)), Kd.S_step h.held (fun k hk hlt => hf.block k hlt (fun hs => by have := hS k hlt hs; omega)), fun j hj => ?_⟩
  obtain ⟨rv, h1, h2, h3, h4⟩ := h.hash j hj
  exact ⟨rv, h1.fr hf (fun hs => by have := hS _ h1.blk.lt hs; omega) (fun k hk hs => by have := hS k (h1.rest.base k hk).2 hs; have := (h4 k hk).2; omega), h2, h3, h4⟩
theorem StrM.relabTo {i : Nat} {l : List UInt8} (h : StrM base lab w va vh hs i l) (L : Nat) : StrM base (fun k => if k < w.heap.size then lab k else L) w va vh hs i l := by
  have hl : ∀ k, k < w.heap.size → (if k < w.heap.size then lab k else L) = lab k := fun k hk => if_pos hk
  refine ⟨Kd.R_mono (Kd.R_bound h.all) (fun k hk => ⟨hk.1.1, by rw [hl k hk.2.2.1]; exact hk.1.2⟩), Kd.S_mono (Kd.S_bound h.held) (fun k hk => ⟨hk.1.1, by rw [hl k hk.2.2.1]; exact hk.1.2⟩), fun j hj => ?_⟩
  obtain ⟨rv, h1, h2, h3, h4⟩ := h.hash j hj
  exact ⟨rv, h1, h2, (hl _ h1.blk.lt).trans h3, fun k hk => ⟨(h4 k hk).1, (hl k (h1.rest.base k hk).2).trans (h4 k hk).2⟩⟩
end
theorem set_at (hs : HL) (i j : Nat) (hi : i < hs.length) (hj : j < hs.length) (l : List UInt8) : (hs.set i (hs[i].1, l))[j]'(by simpa using hj) = (hs[j].1, if j = i then l else hs[j].2) := by
  rw [List.getElem_set]
  by_cases e : i = j
  · subst e; rw [if_pos rfl, if_pos rfl]
  · rw [if_neg e, if_neg (fun h => e h.symm)]
theorem map_set_snd (hs : HL) (i : Nat) (hi : i < hs.length) (l : List UInt8) : ((hs.set i (hs[i].1, l)).map (·.2)).map bi = ((hs.map (·.2)).map bi).set i (bi l) := by
  rw [List.map_set, List.map_set]
theorem map_set_fst (hs : HL) (i : Nat) (hi : i < hs.length) (l : List UInt8) : (hs.set i (hs[i].1, l)).map (·.1) = hs.map (·.1) := by
  rw [List.map_set]
  apply List.ext_getElem
  · simp
  · intro j h1 h2
    rw [List.getElem_set]
    split
    · next e => subst e; simp
    · rfl
/-- The list of what was added, when row i has got more: v1 stands in its cell. -/
theorem held_put {base : Nat} {ok : Nat → Prop} {w : World} {g n c : Nat} {xs : List (List Int)} (h : Kd.S KB 22 w base ok (.slice (some ⟨g, 0, none⟩) n c) xs) (i : Nat) (hi : i < n)
    (okg : Nat → Prop) (hgk : ∀ k, okg k → ok k) (hg : g < w.heap.size) :
    ∃ (oki : Nat → Prop) (v : Value), w.cell? ⟨g, i, none⟩ = some v ∧ Kd.R (Kd.int .u8) 5 w base oki v (xs.getD i []) ∧ (∀ k, oki k → ok k ∧ k ≠ g ∧ k < w.heap.size) ∧
      ∀ (S : Nat → Prop) (W : World) (v1 : Value) (x' : List Int), Fr S w W → (∀ k, k < w.heap.size → S k → oki k) → Kd.R (Kd.int .u8) 5 W base (fun k => oki k ∨ (w.heap.size ≤ k ∧ okg k)) v1 x' →
        Kd.S KB 22 (W.setCell ⟨g, i, none⟩ v1) base ok (.slice (some ⟨g, 0, none⟩) n c) (xs.set i x') := by
  have hb := Kd.S_mono (Kd.S_bound h) (ok' := fun k => ok k ∧ k < w.heap.size) (fun k hk => ⟨hk.1, hk.2.2.1⟩)
  obtain ⟨oki, cs, hcl, hM, hcell, hki, hH⟩ := Kd.S_lend hb [] (i : Int) (by omega) (by omega)
  simp only [Int.toNat_natCast] at hM hcell
  obtain ⟨v, rfl, hR⟩ := hM
  refine ⟨oki, v, by simpa [Kd.slice] using hcell 0 v rfl, hR, fun k hk => ⟨(hki k hk).1.1, (hki k hk).2, (hki k hk).1.2⟩, fun S W v1 x' hf hS hR1 => ?_⟩
  have hH2 : Kd.H KB 22 W base (fun k => ok k ∧ k < w.heap.size) (.slice (some ⟨g, 0, none⟩) n c) xs (i : Int) oki [v] :=
    Kd.H_step hH (fun k hk hnk hlt => hf.block k hlt (fun hs => hnk (hS k hlt hs)))
  have h4 := (Kd.S_seg (d := KB) (ok := ok) (okg := fun k => w.heap.size ≤ k ∧ okg k) (okp := fun k => oki k ∨ (w.heap.size ≤ k ∧ okg k)) (Kd.H_mono hH2 (fun k hk => ⟨hk.1, by omega⟩)) (by omega) (by omega) (seg := [v1]) (j := 0) (by simp [Kd.slice]) (x' := x') ⟨v1, by simp, hR1⟩
    (fun k hk => hk) (fun k hk => ⟨hgk k hk.2, by have := hk.1; omega⟩)).1
  simpa [Kd.slice, World.setCells] using h4
theorem StrM.done {base : Nat} {lab : Nat → Nat} {w w' : World} {va vh : Value} {hs : HL} {S : Nat → Prop} {i : Nat} {l : List UInt8} (h : StrM base lab w va vh hs i l) (hi : i < hs.length) (hf : Fr S w w') (hS : ∀ k, k < w.heap.size → S k → lab k = 1)
    (hheld : Kd.S KB 22 w' base (fun k => base ≤ k ∧ lab k = 1) vh (((hs.map (·.2)).map bi).set i (bi l))) : StrS base lab w' va vh (hs.set i (hs[i].1, l)) := by
  refine ⟨?_, by rw [map_set_snd]; exact hheld, fun j hj => ?_⟩
  · rw [map_set_fst]
    exact Kd.R_step h.all (fun k hk hlt => hf.block k hlt (fun hs => by have := hS k hlt hs; omega))
  · have hj2 : j < hs.length := by simpa using hj
    obtain ⟨rv, h1, h2, h3, h4⟩ := h.hash j hj2
    rw [set_at hs i j hi hj2 l]
    exact ⟨rv, h1.fr hf (fun hs => by have := hS _ h1.blk.lt hs; omega) (fun k hk hs => by have := hS k (h1.rest.base k hk).2 hs; have := (h4 k hk).2; omega), h2, h3, h4⟩
/-- A new Hash at p that holds l, and l in v (its blocks labelled 1001). -/
structure NewS (base : Nat) (lab : Nat → Nat) (w : World) (va vh : Value) (hs : HL) (p : Nat) (v : Value) (l : List UInt8) : Prop where
  str : StrS base lab w va vh hs
  hash : ∃ rv, HashOf w p l rv ∧ base ≤ p ∧ lab p = hs.length + 2 ∧ ∀ k, rv.ownBlock = some k → base ≤ k ∧ lab k = hs.length + 2
  row : Kd.R (Kd.int .u8) 5 w base (fun k => base ≤ k ∧ lab k = 1001) v (bi l)
theorem StrS.push {base : Nat} {lab : Nat → Nat} {w w' : World} {va vh va' vh' : Value} {hs : HL} {S : Nat → Prop} {p : Nat} {l : List UInt8} {rv : Value} (h : StrS base lab w va vh hs)
    (hall : Kd.R KP 31 w' base (fun k => base ≤ k ∧ lab k = 0) va' (hs.map (·.1) ++ [p])) (hheld : Kd.S KB 22 w' base (fun k => base ≤ k ∧ lab k = 1) vh' ((hs.map (·.2)).map bi ++ [bi l]))
    (hf : Fr S w w') (hS : ∀ k, k < w.heap.size → S k → lab k = 0 ∨ lab k = 1) (hp : HashOf w p l rv) (hpb : base ≤ p) (hpl : lab p = hs.length + 2) (hrv : ∀ k, rv.ownBlock = some k → base ≤ k ∧ lab k = hs.length + 2) :
    StrS base lab w' va' vh' (hs ++ [(p, l)]) := by
  refine ⟨by rw [List.map_append]; exact hall, by rw [List.map_append, List.map_append]; exact hheld, fun j hj => ?_⟩
  have mv : ∀ {q : Nat} {m : List UInt8} {rv : Value} {t : Nat}, HashOf w q m rv → lab q = t + 2 → (∀ k, rv.ownBlock = some k → base ≤ k ∧ lab k = t + 2) → HashOf w' q m rv := fun h1 h3 h4 =>
    h1.fr hf (fun hs => by have := hS _ h1.blk.lt hs; omega) (fun k hk hs => by have := hS k (h1.rest.base k hk).2 hs; have := (h4 k hk).2; omega)
  by_cases e : j < hs.length
  · obtain ⟨rv0, h1, h2, h3, h4⟩ := h.hash j e
    rw [List.getElem_append_left e]
    exact ⟨rv0, mv h1 h3 h4, h2, h3, h4⟩
  · have hj2 : j = hs.length := by simp at hj; omega
    subst hj2
    rw [List.getElem_append_right (Nat.le_refl _)]
    simp only [Nat.sub_self, List.getElem_cons_zero]
    exact ⟨rv, mv hp hpl hrv, hpb, hpl, hrv⟩
theorem StrS.ptrAt {base : Nat} {lab : Nat → Nat} {w : World} {vh : Value} {hs : HL} {g n c : Nat} (h : StrS base lab w (.slice (some ⟨g, 0, none⟩) n c) vh hs) (hn : hs.length = n) (i : Nat) (hi : i < hs.length) : w.cell? ⟨g, i, none⟩ = some (.pointer (some ⟨hs[i].1, 0, none⟩)) := by
  have := (Kd.R_celln (0 : Nat) h.all (i : Int) (by omega) (by omega)).1
  simpa [rdOf, List.getD_eq_getElem?_getD, List.getElem?_eq_getElem hi] using this
theorem held_rows {base : Nat} {ok : Nat → Prop} {w : World} {ls : List (List UInt8)} {g n c : Nat} (h : Kd.S KB 22 w base ok (.slice (some ⟨g, 0, none⟩) n c) (ls.map bi)) : Rbs w (some ⟨g, 0, none⟩) ls := by
  obtain ⟨A, c2, e, hl, hr⟩ := Kd.S_reads h
  rw [List.length_map] at e hl hr
  obtain ⟨rfl, _⟩ : some (⟨g, 0, none⟩ : Addr) = A ∧ n = ls.length ∧ c = c2 := by simpa using e
  exact hr
/-- Where a list's row i begins, by its cell. -/
theorem rows_at {w : World} {g : Nat} {ls : List (List UInt8)} (h : Rbs w (some ⟨g, 0, none⟩) ls) (i : Nat) (hi : i < ls.length) : ∃ Ai ci, w.cell? ⟨g, i, none⟩ = some (.slice Ai ls[i].length ci) ∧ ls[i].length ≤ ci ∧ Rb w Ai ls[i] := by
  obtain ⟨ad, Ai, ci, e, hc, hl, hr⟩ := h.at_ i hi
  obtain rfl := Option.some.inj e
  rw [add_plain] at hc
  exact ⟨Ai, ci, hc, hl, hr⟩
/-- What the two appends of a new Hash want and leave. -/
theorem NewS.one {base : Nat} {lab : Nat → Nat} {w : World} {va vh : Value} {hs : HL} {p : Nat} {v : Value} {l : List UInt8} (h : NewS base lab w va vh hs p v l) (hb : base ≤ w.heap.size) :
    Kd.R KP 31 w base (fun k => base ≤ k ∧ (if k < w.heap.size then lab k else 0) = 0) va (hs.map (·.1)) ∧ ∀ k, w.heap.size ≤ k → base ≤ k ∧ (if k < w.heap.size then lab k else 0) = 0 :=
  ⟨(h.str.relabTo 0).all, fun k hk => ⟨by omega, if_neg (by omega)⟩⟩
def lab5 (lab : Nat → Nat) (z w5 : Nat) (k : Nat) : Nat := if k < w5 then (if (if k < z then lab k else 0) = 1001 then 1 else (if k < z then lab k else 0)) else 1
theorem NewS.two {base : Nat} {lab : Nat → Nat} {w w5 : World} {va vh : Value} {hs : HL} {p : Nat} {v : Value} {l : List UInt8} (h : NewS base lab w va vh hs p v l) (hb : base ≤ w.heap.size) (hg : w.grownBy w5 va.ownBlock) :
    KB.M w5 base (fun k => base ≤ k ∧ (k < w.heap.size ∧ lab k = 1001)) (bi l) [v] ∧ Kd.S KB 22 w5 base (fun k => (base ≤ k ∧ lab5 lab w.heap.size w5.heap.size k = 1) ∧ ¬ (base ≤ k ∧ (k < w.heap.size ∧ lab k = 1001))) vh ((hs.map (·.2)).map bi) ∧
      (∀ k, (base ≤ k ∧ (k < w.heap.size ∧ lab k = 1001)) → (base ≤ k ∧ lab5 lab w.heap.size w5.heap.size k = 1) ∧ some k ≠ vh.ownBlock) ∧ (∀ k, w5.heap.size ≤ k → base ≤ k ∧ lab5 lab w.heap.size w5.heap.size k = 1) := by
  have hz := hg.size
  have ha : ∀ k, va.ownBlock = some k → lab k = 0 := fun k hk => (h.str.all.1 k hk).2
  refine ⟨⟨v, rfl, ?_⟩, ?_, fun k hk => ⟨⟨hk.1, ?_⟩, fun e => ?_⟩, fun k hk => ⟨by omega, ?_⟩⟩
  · exact Kd.R_mono (Kd.R_step (Kd.R_mono (Kd.R_bound h.row) (ok' := fun k => base ≤ k ∧ (k < w.heap.size ∧ lab k = 1001)) (fun k hk => ⟨hk.1.1, hk.2.2.1, hk.1.2⟩)) (fun k hk hlt => hg.block k hlt (fun e => by have := ha k e.symm; omega))) (fun k hk => hk)
  · refine Kd.S_mono (Kd.S_step (Kd.S_mono (Kd.S_bound h.str.held) (ok' := fun k => base ≤ k ∧ (k < w.heap.size ∧ lab k = 1)) (fun k hk => ⟨hk.1.1, hk.2.2.1, hk.1.2⟩)) (fun k hk hlt => hg.block k hlt (fun e => by have := ha k e.symm; omega))) (fun k hk => ⟨⟨hk.1, ?_⟩, fun h2 => by omega⟩)
    unfold lab5
    rw [if_pos (by omega), if_neg (by rw [if_pos hk.2.1]; omega), if_pos hk.2.1]
    exact hk.2.2
  · unfold lab5
    rw [if_pos (by omega), if_pos (by rw [if_pos hk.2.1]; exact hk.2.2)]
  · have := ((Kd.S_R h.str.held).1 k e.symm).2
    omega
  · unfold lab5
    rw [if_neg (by omega)]
theorem NewS.push {base : Nat} {lab : Nat → Nat} {w w5 w6 : World} {va vh v1 v2 : Value} {hs : HL} {p : Nat} {v : Value} {l : List UInt8} (h : NewS base lab w va vh hs p v l) (hn : hs.length ≤ 64) (hb : base ≤ w.heap.size)
    (hr1 : Kd.R KP 31 w5 base (fun k => base ≤ k ∧ (if k < w.heap.size then lab k else 0) = 0) v1 (hs.map (·.1) ++ [p])) (hg1 : w.grownBy w5 va.ownBlock)
    (hr2 : Kd.S KB 22 w6 base (fun k => base ≤ k ∧ lab5 lab w.heap.size w5.heap.size k = 1) v2 ((hs.map (·.2)).map bi ++ [bi l])) (hg2 : w5.grownBy w6 vh.ownBlock) :
    StrS base (lab5 lab w.heap.size w5.heap.size) w6 v1 v2 (hs ++ [(p, l)]) ∧ Fr (fun k => base ≤ k) w w6 := by
  have hz1 := hg1.size
  have hz2 := hg2.size
  have ha : ∀ k, va.ownBlock = some k → base ≤ k ∧ lab k = 0 ∧ k < w.heap.size := fun k hk => ⟨(h.str.all.1 k hk).1, (h.str.all.1 k hk).2, Kd.R_lt h.str.all k hk⟩
  have hv : ∀ k, vh.ownBlock = some k → base ≤ k ∧ lab k = 1 ∧ k < w.heap.size := fun k hk => ⟨((Kd.S_R h.str.held).1 k hk).1, ((Kd.S_R h.str.held).1 k hk).2, Kd.S_lt h.str.held k hk⟩
  have h5 : ∀ k, k < w.heap.size → lab k ≠ 1001 → lab5 lab w.heap.size w5.heap.size k = lab k := fun k hk hne => by
    unfold lab5
    rw [if_pos (by omega), if_neg (by rw [if_pos hk]; exact hne), if_pos hk]
  have hf : Fr (fun k => va.ownBlock = some k ∨ vh.ownBlock = some k) w w6 :=
    ((Fr.refl (fun k => va.ownBlock = some k ∨ vh.ownBlock = some k) w).grown hg1 (fun k hk => .inl (.inl hk))).grown hg2 (fun k hk => .inl (.inr hk))
  obtain ⟨rv, hp, hpb, hpl, hrv⟩ := h.hash
  refine ⟨StrS.push (lab := lab5 lab w.heap.size w5.heap.size) (S := fun k => va.ownBlock = some k ∨ vh.ownBlock = some k) (rv := rv) (h.str.relab (fun k hk hl => h5 k hk (by omega))) ?_ hr2 hf (fun k hk hS => ?_) hp hpb (by rw [h5 _ hp.blk.lt (by omega)]; exact hpl) (fun k hk => ⟨(hrv k hk).1, by rw [h5 k (hp.rest.base k hk).2 (by have := (hrv k hk).2; omega)]; exact (hrv k hk).2⟩),
    hf.mono (fun k hk => .inl (hk.elim (fun e => (ha k e).1) (fun e => (hv k e).1)))⟩
  · refine Kd.R_step (Kd.R_mono (Kd.R_bound hr1) (fun k hk => ⟨hk.1.1, ?_⟩)) (fun k hk hlt => hg2.block k hlt (fun e => ?_))
    · unfold lab5
      rw [if_pos hk.2.2.1, if_neg (by rw [hk.1.2]; decide)]
      exact hk.1.2
    · have h1 := hv k e.symm
      have h2 := h5 k h1.2.2 (by omega)
      omega
  · rcases hS with e | e
    · have h1 := ha k e
      exact .inl ((h5 k hk (by omega)).trans h1.2.1)
    · have h1 := hv k e
      exact .inr ((h5 k hk (by omega)).trans h1.2.1)
/-- A row's append in a region that draws its order. -/
theorem app_row_wp {P : Program} {o : Oper} {a : Act} {K : Act → World → Prop} {Q : Exit → Act → World → Prop} {W : World} (base : Nat) (hgd : o.guard = none) (s x : Operand) (t : TypeId)
    (ho : o.op = .call { callee := .builtin .append, args := #[s, x], argTypes := #[t, t] }) (ht : P.underlying t = some (.slice 5))
    (hinfo : (P.info? 5).map (fun i => (i.zero, i.size, i.bytes)) = some (some (.int .u8 0), 1, 1))
    (ok : Nat → Prop) (v : Value) (xs ys : List Int) (A : Option Addr) (m c : Nat) (hs : a.eval s = v) (hx : a.eval x = .slice A m c)
    (HO : Kd.R (Kd.int .u8) 5 W base ok v xs) (HR : Kd.C (Kd.int .u8) W A m ys) (hfresh : ∀ k, W.heap.size ≤ k → ok k) (hb : base ≤ W.heap.size) (hl : xs.length + m ≤ 140737488355328)
    (h : ∀ v1 w1, Kd.R (Kd.int .u8) 5 w1 base ok v1 (xs ++ ys) → W.grownBy w1 v.ownBlock → K (a.put o.dst v1) w1) : o.wp P a W K Q := by
  have hw : Region.wanted o (yielded #[] a.tmps) = true := by simp [Region.wanted, hgd]
  have := Kd.R_append_rows_step (Kd.int .u8) (Rr := (Kd.int .u8).K W) (ops := #[]) (P := P) (Q := Q) (Kc := K) (a := a) (o := o) (w0 := W) base hw s x t 5 (.int .u8 0) 1 ho ht hinfo rfl (by decide) (by decide) v xs ys A m c ok (fun _ => False) hs hx HO HR (fun x cs h => h) (fun _ hk => hk.elim) hfresh (Below.refl _ _) hb (by omega)
    (fun v1 w1 h1 _ h3 _ => h v1 w1 h1 h3)
  rwa [if_pos hw] at this
/-- A drawn region with an append (operation c, slot s) and a store behind it (operation m): the world. -/
structure AppE (c m s : Nat) (w : World) (P : Value → World → Prop) (R : World → Prop) (listed : Array Bool) (vs : Nat → Value) (W : World) : Prop where
  a : listed.getD c false = false → W = w
  b : listed.getD c false = true → listed.getD m false = false → P (vs s) W
  d : listed.getD m false = true → R W
section
variable {c m s n : Nat} {w W W' : World} {P : Value → World → Prop} {R : World → Prop} {listed : Array Bool} {vs : Nat → Value}
theorem getD_repl (n i : Nat) : (Array.replicate n false).getD i false = false := by
  rw [Array.getD_eq_getD_getElem?, Array.getElem?_replicate]
  split <;> rfl
theorem AppE.start (n : Nat) (vs : Nat → Value) : AppE c m s w P R (Array.replicate n false) vs w := ⟨fun _ => rfl, (fun h => by rw [getD_repl] at h; cases h), (fun h => by rw [getD_repl] at h; cases h)⟩
theorem AppE.keep (h : AppE c m s w P R listed vs W) (i t : Nat) (v : Value) (hi : (i ≠ c ∧ i ≠ m) ∧ s ≠ t) : AppE c m s w P R (listed.setIfInBounds i true) (fun k => if k = t then v else vs k) W := by
  refine ⟨fun h1 => ?_, fun h1 h2 => ?_, fun h1 => ?_⟩
  · rw [getD_set_ne false hi.1.1] at h1; exact h.a h1
  · rw [getD_set_ne false hi.1.1] at h1
    rw [getD_set_ne false hi.1.2] at h2
    (try dsimp only)
    rw [if_neg hi.2]
    exact h.b h1 h2
  · rw [getD_set_ne false hi.1.2] at h1; exact h.d h1
theorem AppE.app (hn : listed.size = n) (hc : c < n) (hcm : c ≠ m) (hm : listed.getD m false = false) (v : Value) (hp : P v W') : AppE c m s w P R (listed.setIfInBounds c true) (fun k => if k = s then v else vs k) W' := by
  have hs : (listed.setIfInBounds c true).getD c false = true := by simp [hn, hc]
  refine ⟨fun h1 => absurd (hs.symm.trans h1) (by decide), fun _ _ => ?_, fun h1 => ?_⟩
  · (try dsimp only)
    rw [if_pos rfl]; exact hp
  · rw [getD_set_ne false hcm, hm] at h1; cases h1
theorem AppE.fin (hn : listed.size = n) (hm : m < n) (hcm : m ≠ c) (hc : listed.getD c false = true) (t : Nat) (v : Value) (hr : R W') : AppE c m s w P R (listed.setIfInBounds m true) (fun k => if k = t then v else vs k) W' := by
  have hs : (listed.setIfInBounds m true).getD m false = true := by simp [hn, hm]
  exact ⟨(fun h1 => by rw [getD_set_ne false hcm, hc] at h1; cases h1), fun _ h2 => absurd (hs.symm.trans h2) (by decide), fun _ => hr⟩
end
theorem eval_of {b : Act} {k : Nat} {v : Value} (h : b.tmps[k]?.getD undef = v) : b.eval (.tmp k) = v := by
  show b.tmps.getD k undef = v
  rw [Array.getD_eq_getD_getElem?]; exact h
/-- What the append to row i of what was added leaves; and the store of it. -/
def AddP (base : Nat) (oki okg : Nat → Prop) (w5 : World) (m : List UInt8) (v : Value) (W : World) : Prop := Kd.R (Kd.int .u8) 5 W base (fun k => oki k ∨ (w5.heap.size ≤ k ∧ okg k)) v (bi m) ∧ Fr oki w5 W
def FinP (base : Nat) (oki okg : Nat → Prop) (w5 : World) (m : List UInt8) (gb x : Nat) (W : World) : Prop := ∃ W0 v1, AddP base oki okg w5 m v1 W0 ∧ W = W0.setCell ⟨gb, x, none⟩ v1
def addSl : Nat → Nat
  | 10 => 9999
  | i => 104 + i
/-- What the operations of the region yield. -/
def addF (gb n cb x B : Nat) (VA Di : Option Addr) (ln vc dn di : Nat) : Nat → Value → World → Prop
  | 0, v, _ => v = .slice (some ⟨gb, 0, none⟩) n cb
  | 1, v, _ => v = .int .i64 x
  | 2, v, _ => v = .slice (some ⟨gb, 0, none⟩) n cb
  | 3, v, _ => v = .int .i64 x
  | 4, v, _ => v = .pointer (some ⟨gb, x, none⟩)
  | 5, v, _ => v = .slice VA ln vc
  | 6, v, _ => v = .pointer (some ⟨B, 2, none⟩)
  | 7, v, _ => v = .slice Di dn di
  | 9, v, _ => v = .pointer (some ⟨gb, x, none⟩)
  | _, _, _ => True
theorem addF_w {gb n cb x B : Nat} {VA Di : Option Addr} {ln vc dn di j : Nat} {u : Value} {W W' : World} (h : addF gb n cb x B VA Di ln vc dn di j u W) : addF gb n cb x B VA Di ln vc dn di j u W' := by
  match j, h with
  | 0, h => exact h
  | 1, h => exact h
  | 2, h => exact h
  | 3, h => exact h
  | 4, h => exact h
  | 5, h => exact h
  | 6, h => exact h
  | 7, h => exact h
  | 8, h => exact h
  | 9, h => exact h
  | _ + 10, h => exact h
end Go.Proofs.YtbaeddppihjgfaaDoor.Sg
