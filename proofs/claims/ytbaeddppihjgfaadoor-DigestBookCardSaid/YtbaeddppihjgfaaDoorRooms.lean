/- Lists of lists in memory of their own with room behind each: what such memory is, and the walks of roomyAll, keptAll, sameAll. -/
import Derived.Test.YtbaeddppihjgfaaDoorRoom
namespace Go.Proofs.YtbaeddppihjgfaaDoor.Sg
open Go Go.RowKit Go.Proofs.YtbaeddppihjgfaaDoorW.PrintWords
set_option linter.unusedVariables false
abbrev KB : Kd (List Int) := Kd.slice 5 (Kd.int .u8)
abbrev Rbs (w : World) (A : Option Addr) (ls : List (List UInt8)) : Prop := Kd.C KB w A ls.length (ls.map bi)
theorem Rbs.at_ {w : World} {A : Option Addr} {ls : List (List UInt8)} (h : Rbs w A ls) (i : Nat) (hi : i < ls.length) :
    ∃ ad Ai ci, A = some ad ∧ w.cell? (ad.add i) = some (.slice Ai ls[i].length ci) ∧ ls[i].length ≤ ci ∧ Rb w Ai ls[i] := by
  obtain ⟨ad, e, hc⟩ := h.2.2 (by omega)
  obtain ⟨c, hs, ⟨Ai, ci, rfl, hl, hr⟩, hcell⟩ := hc i (bi ls[i]) (by simp [hi])
  rw [bi_length] at hl hr hcell
  have := hcell 0 _ rfl
  exact ⟨ad, Ai, ci, e, by simpa [Kd.slice] using this, hl, by unfold Rb; exact hr⟩
theorem Rbs.fr {w w' : World} {A : Option Addr} {ls : List (List UInt8)} (h : Rbs w A ls) (hf : Fr No w w') : Rbs w' A ls := Kd.C_below h hf.below
theorem Rbs.mk_ {w : World} {B : Nat} {ls : List (List UInt8)} (hn : ls.length ≤ 9223372036854775807) (h : ∀ i (hi : i < ls.length), ∃ Ai ci, w.cell? ⟨B, i, none⟩ = some (.slice Ai ls[i].length ci) ∧ ls[i].length ≤ ci ∧ Rb w Ai ls[i]) : Rbs w (some ⟨B, 0, none⟩) ls := by
  refine ⟨by simp, hn, fun _ => ⟨_, rfl, fun j p hj => ?_⟩⟩
  have hlt : j < ls.length := by
    have := (List.getElem?_eq_some_iff.1 hj).1
    simpa using this
  have hp : p = bi ls[j] := by
    rw [List.getElem?_eq_getElem (by simpa using hlt)] at hj
    simpa using hj.symm
  subst hp
  obtain ⟨Ai, ci, hc, hl, hr⟩ := h j hlt
  refine ⟨[.slice Ai ls[j].length ci], rfl, ⟨Ai, ci, by rw [bi_length], by rw [bi_length]; exact hl, by rw [bi_length]; exact hr⟩, fun i u hu => ?_⟩
  cases i with
  | zero =>
    obtain rfl : Value.slice Ai ls[j].length ci = u := by simpa using hu
    have ha : (⟨B, 0, none⟩ : Addr).add (j * KB.sz + 0) = ⟨B, j, none⟩ := by rw [add_plain]; simp [Kd.slice]
    rw [ha]; exact hc
  | succ i => simp at hu
/-- A block of n cells. -/
def TabV (w : World) (g n : Nat) (ty : TypeId) (f : Nat → Value) : Prop := w.heap[g]? = some (.cells ((List.range n).map f).toArray ty (0, 0))
section
variable {w w1 : World} {g n t : Nat} {ty : TypeId} {f f2 : Nat → Value} {S : Nat → Prop}
theorem TabV.fr (h : TabV w g n ty f) (hf : Fr S w w1) (hn : ¬ S g) : TabV w1 g n ty f := hf.heap h hn
theorem TabV.lt (h : TabV w g n ty f) : g < w.heap.size := (Array.getElem?_eq_some_iff.1 h).1
theorem TabV.cell (h : TabV w g n ty f) (ht : t < n) : w.cell? ⟨g, t, none⟩ = some (f t) := by
  have hb : w.heap[g]? = some (.cells ((List.range n).map f).toArray ty (0, 0)) := h
  simp [World.cell?, hb, ht]
theorem TabV.free (h : TabV w g n ty f) (j : Nat) : w.frozen? ⟨g, j, none⟩ = false := by
  have hb : w.heap[g]? = some (.cells ((List.range n).map f).toArray ty (0, 0)) := h
  simp [World.frozen?, hb]
theorem TabV.congr (h : TabV w g n ty f) (hf : ∀ j, j < n → f j = f2 j) : TabV w g n ty f2 := by
  have hb : w.heap[g]? = some (.cells ((List.range n).map f).toArray ty (0, 0)) := h
  unfold TabV
  rw [hb]
  congr 3
  apply List.map_congr_left
  intro j hj
  exact hf j (by simpa using hj)
theorem TabV.set (h : TabV w g n ty f) (v : Value) : TabV (w.setCell ⟨g, t, none⟩ v) g n ty (fun j => if j = t then v else f j) := by
  refine blk_put h t _ ?_
  apply Array.ext
  · simp
  · intro i h1 h2
    simp only [List.setIfInBounds_toArray, List.getElem_toArray]
    rw [List.getElem_set]
    simp only [List.getElem_map, List.getElem_range]
    by_cases e : t = i
    · subst e; simp
    · rw [if_neg e, if_neg (fun h => e h.symm)]
end
theorem tab_made (w : World) (z : Value) (m : Nat) (ty : TypeId) : TabV (w.alloc (.cells (madeCells #[z] m) ty)) w.heap.size m ty (fun _ => z) := by
  have hl : madeCells #[z] m = ((List.range m).map fun _ => z).toArray := by
    apply Array.ext
    · simp [madeCells]
    · intro i h1 h2
      simp [madeCells, Nat.mod_one]
  unfold TabV
  rw [hl]
  exact heap_alloc_new w _
/-- What the outer list's cell k holds: the lists, their blocks told by g; behind them two lists of one byte each. -/
def outV (g : Nat → Nat) (x1 x2 : Nat) (ls : List (List UInt8)) (k : Nat) : Value :=
  if k < ls.length then .slice (some ⟨g k, 0, none⟩) (ls.getD k []).length ((ls.getD k []).length + 6)
  else if k = ls.length then .slice (some ⟨x1, 0, none⟩) 1 1 else .slice (some ⟨x2, 0, none⟩) 1 1
structure RoomAll (w : World) (B : Nat) (g : Nat → Nat) (x1 x2 : Nat) (ls : List (List UInt8)) : Prop where
  tab : TabV w B (ls.length + 2) 22 (outV g x1 x2 ls)
  room : ∀ i (hi : i < ls.length), Room w (g i) ls[i]
  b1 : Blk w x1 [1]
  b2 : Blk w x2 [2]
  inj : ∀ i j, i < ls.length → j < ls.length → g i = g j → i = j
  ne : ∀ i, i < ls.length → g i ≠ B
  small : ∀ l ∈ ls, l.length ≤ 140737488351232
  cnt : ls.length ≤ 5864062014634
/-- All of it was made since there were base blocks. -/
structure Since (base B : Nat) (g : Nat → Nat) (n : Nat) : Prop where
  b : base ≤ B
  g : ∀ i, i < n → base ≤ g i
theorem RoomAll.fr {S : Nat → Prop} {w w1 : World} {B : Nat} {g : Nat → Nat} {x1 x2 : Nat} {ls : List (List UInt8)} (h : RoomAll w B g x1 x2 ls) (hf : Fr No w w1) : RoomAll w1 B g x1 x2 ls :=
  ⟨h.tab.fr hf id, fun i hi => Blk.fr (h.room i hi) hf id, h.b1.fr hf id, h.b2.fr hf id, h.inj, h.ne, h.small, h.cnt⟩
theorem RoomAll.frS {S : Nat → Prop} {w w1 : World} {B : Nat} {g : Nat → Nat} {x1 x2 : Nat} {ls : List (List UInt8)} (h : RoomAll w B g x1 x2 ls) (hf : Fr S w w1) (hS : ∀ b, S b → w.heap.size ≤ b ∨ (b ≠ B ∧ (∀ i, i < ls.length → b ≠ g i) ∧ b ≠ x1 ∧ b ≠ x2)) : RoomAll w1 B g x1 x2 ls := by
  have hB := h.tab.lt; have h1 := h.b1.lt; have h2 := h.b2.lt
  refine ⟨h.tab.fr hf (fun k => ?_), fun i hi => Blk.fr (h.room i hi) hf (fun k => ?_), h.b1.fr hf (fun k => ?_), h.b2.fr hf (fun k => ?_), h.inj, h.ne, h.small, h.cnt⟩
  · rcases hS _ k with k | ⟨k, _⟩
    · omega
    · exact k rfl
  · have := Blk.lt (h.room i hi)
    rcases hS _ k with k | ⟨_, k, _⟩
    · omega
    · exact k i hi rfl
  · rcases hS _ k with k | ⟨_, _, k, _⟩
    · omega
    · exact k rfl
  · rcases hS _ k with k | ⟨_, _, _, k⟩
    · omega
    · exact k rfl
theorem RoomAll.cell {w : World} {B : Nat} {g : Nat → Nat} {x1 x2 : Nat} {ls : List (List UInt8)} (h : RoomAll w B g x1 x2 ls) (i : Nat) (hi : i < ls.length) : w.cell? ⟨B, i, none⟩ = some (.slice (some ⟨g i, 0, none⟩) ls[i].length (ls[i].length + 6)) := by
  rw [h.tab.cell (by omega)]
  unfold outV
  rw [if_pos hi, List.getD_eq_getElem?_getD, List.getElem?_eq_getElem hi]
  rfl
theorem RoomAll.reads {w : World} {B : Nat} {g : Nat → Nat} {x1 x2 : Nat} {ls : List (List UInt8)} (h : RoomAll w B g x1 x2 ls) : Rbs w (some ⟨B, 0, none⟩) ls :=
  Rbs.mk_ (by have := h.cnt; omega) (fun i hi => ⟨_, _, h.cell i hi, by omega, (h.room i hi).le (h.small _ (List.getElem_mem hi))⟩)
theorem infoRow : (Tryd.prog.info? 22).map (fun i => (i.zero, i.size, i.bytes)) = some (some (.slice none 0 0), 1, 24) := by kernel_rfl
set_option maxRecDepth 100000 in
set_option maxHeartbeats 4000000 in
theorem roomyAll_calls (ls : List (List UInt8)) (A : Option Addr) (c : Nat) (w : World) (hr : Rbs w A ls) (hn : ls.length ≤ 5864062014634) (hl : ∀ l ∈ ls, l.length ≤ 140737488351232) :
    Calls Tryd.prog 31 #[.slice A ls.length c] w fun e w' => ∃ B g x1 x2, e = .returned (.slice (some ⟨B, 0, none⟩) ls.length (ls.length + 2)) ∧ RoomAll w' B g x1 x2 ls ∧ Since w.heap.size B g ls.length ∧ Fr No w w' := by
  have HR := Aside0.mk hr; have HL := Aside0.mk hl
  clear hr hl
  have hmk := print_make_of (P := Tryd.prog) 34 22 (.slice none 0 0) 24 Tryd.underlying34 infoRow rfl (by decide) (ls.length + 2) (by omega)
  have ec : ((ls.length + 2 : Nat) : Int) = (ls.length : Int) + 2 := by omega
  rw [ec] at hmk
  clear ec
  go_enter Tryd.func31, Tryd.ntmps31
  have HT := Aside0.mk (tab_made w (.slice none 0 0) (ls.length + 2) 22)
  have HF : Aside0 (Fr No w (w.alloc (.cells (madeCells #[.slice none 0 0] (ls.length + 2)) 22))) := ⟨(Fr.refl No w).alloc _⟩
  go_wp2_with fail
  clear hmk
  go_loopw [4] (fun i wr => ∃ k : Nat, ∃ g : Nat → Nat, k ≤ ls.length ∧ i = .int .i64 k ∧ Aside0 (TabV wr w.heap.size (ls.length + 2) 22 (fun j => if j < k then outV g 0 0 ls j else .slice none 0 0)) ∧ Aside0 (∀ j (hj : j < k) (hk : k ≤ ls.length), Room wr (g j) (ls[j]'(by omega))) ∧ Aside0 (∀ i j, i < k → j < k → g i = g j → i = j) ∧ Aside0 (∀ j, j < k → w.heap.size < g j ∧ g j < wr.heap.size) ∧ Aside0 (Fr No w wr)) (fun i _ => ls.length - (intOf i).toNat)
  case atStart => exact ⟨0, fun _ => 0, by omega, rfl, ⟨HT.out.congr (fun j _ => by simp)⟩, ⟨fun j hj => by omega⟩, ⟨fun i j hi => by omega⟩, ⟨fun j hj => by omega⟩, HF⟩
  case round =>
    clear HT HF
    obtain ⟨k, g, hk, rfl, HT, HM, HI, HB, HF⟩ := hrel
    by_cases hlt : k < ls.length
    · obtain ⟨ad, Ai, ci, hA, hcell, hci, hrb⟩ := (HR.out.fr HF.out).at_ k hlt
      subst hA
      have HRB := Aside0.mk hrb
      clear hrb
      go_wp2_with fail
      refine (roomy_calls ls[k] Ai ci wr HRB.out (HL.out _ (List.getElem_mem hlt))).mono ?_
      rintro e w2 ⟨g2, rfl, hg, hm, hf⟩
      have HM2 : Aside0 (∀ j (hj : j < k + 1) (hk : k + 1 ≤ ls.length), Room w2 (if j = k then g2 else g j) (ls[j]'(by omega))) := ⟨fun j hj hk2 => by
        by_cases e : j = k
        · subst e; rw [if_pos rfl]; exact hm
        · rw [if_neg e]; exact Blk.fr (HM.out j (by omega) hk) hf id⟩
      have HT2 : Aside0 (TabV w2 w.heap.size (ls.length + 2) 22 (fun j => if j < k then outV g 0 0 ls j else .slice none 0 0)) := ⟨HT.out.fr hf id⟩
      have HF2 : Aside0 (Fr No w w2) := ⟨HF.out.then_ hf⟩
      have HG2 : Aside0 (wr.heap.size ≤ g2 ∧ g2 < w2.heap.size ∧ wr.heap.size ≤ w2.heap.size ∧ w.heap.size < wr.heap.size) := ⟨hg, Blk.lt hm, hf.size, HT.out.lt⟩
      have HS := Aside0.mk (HT2.out.set (t := k) (.slice (some ⟨g2, 0, none⟩) ls[k].length (ls[k].length + 6)))
      have hfz := HT2.out.free k
      have hcz := HT2.out.cell (t := k) (by omega)
      simp only [Nat.lt_irrefl, if_false] at hcz
      clear hm hf hg HM HT HF HRB
      go_wp2_with fail
      refine ⟨⟨k + 1, fun j => if j = k then g2 else g j, by omega, by go_num, ⟨HS.out.congr (fun j hj => ?_)⟩, ⟨fun j hj hk2 => Blk.fr (HM2.out j hj hk2) ((Fr.refl (fun b => b = w.heap.size) w2).setCell (.inl rfl) _) ?_⟩, ⟨fun i j hi hj he => ?_⟩, ⟨fun j hj => ?_⟩, ⟨HF2.out.setCell (.inr (Nat.le_refl _)) _⟩⟩, by simp [intOf]; omega⟩
      · by_cases e : j = k
        · subst e
          rw [if_pos rfl, if_pos (by omega)]
          unfold outV
          dsimp only
          rw [if_pos hlt, if_pos rfl, List.getD_eq_getElem?_getD, List.getElem?_eq_getElem hlt]
          rfl
        · rw [if_neg e]
          by_cases e2 : j < k
          · rw [if_pos e2, if_pos (by omega)]
            unfold outV
            simp only [if_neg e]
          · rw [if_neg e2, if_neg (by omega)]
      · dsimp only
        by_cases e : j = k
        · rw [if_pos e]; have := HG2.out; omega
        · rw [if_neg e]; have := HB.out j (by omega); omega
      · dsimp only at he
        by_cases e : i = k
        · by_cases e2 : j = k
          · omega
          · rw [if_pos e, if_neg e2] at he
            have := HB.out j (by omega); have := HG2.out; omega
        · by_cases e2 : j = k
          · rw [if_neg e, if_pos e2] at he
            have := HB.out i (by omega); have := HG2.out; omega
          · rw [if_neg e, if_neg e2] at he
            exact HI.out i j (by omega) (by omega) he
      · have h1 := HG2.out
        simp only [World.setCell, Array.size_modify]
        by_cases e : j = k
        · rw [if_pos e]; omega
        · rw [if_neg e]; have := HB.out j (by omega); omega
    · obtain rfl : k = ls.length := by omega
      have hlt0 := HT.out.lt
      have hfz := HT.out.free
      have hcz := HT.out.cell (t := ls.length) (by omega)
      simp only [Nat.lt_irrefl, if_false] at hcz
      have T1 := HT.out.set (t := ls.length) (.slice (some ⟨wr.heap.size, 0, none⟩) 1 1)
      have T2 := (T1.fr ((Fr.refl No _).alloc (.cells #[.int .u8 1] 5)) id).fr ((Fr.refl No _).alloc (.cells #[.int .u8 2] 5)) id
      have hfz2 := T2.free
      have hcz2 := T2.cell (t := ls.length + 1) (by omega)
      have T3 := T1.set (t := ls.length + 1) (.slice (some ⟨wr.heap.size + 1, 0, none⟩) 1 1)
      have F3 : Fr (fun b => b = w.heap.size) wr ((wr.setCell ⟨w.heap.size, ls.length, none⟩ (.slice (some ⟨wr.heap.size, 0, none⟩) 1 1)).setCell ⟨w.heap.size, ls.length + 1, none⟩ (.slice (some ⟨wr.heap.size + 1, 0, none⟩) 1 1)) := ((Fr.refl (fun b => b = w.heap.size) wr).setCell (.inl rfl) _).setCell (.inl rfl) _
      have z3 : ((wr.setCell ⟨w.heap.size, ls.length, none⟩ (.slice (some ⟨wr.heap.size, 0, none⟩) 1 1)).setCell ⟨w.heap.size, ls.length + 1, none⟩ (.slice (some ⟨wr.heap.size + 1, 0, none⟩) 1 1)).heap.size = wr.heap.size := by simp [World.setCell]
      have HT3 := Aside0.mk T3; have HF3 := Aside0.mk F3; have HZ3 := Aside0.mk z3
      clear T1 T2 T3 F3 z3
      go_wp2_with fail
      clear hfz hcz hfz2 hcz2
      generalize World.setCell (World.setCell wr _ _) _ _ = V at HT3 HF3 HZ3 ⊢
      go_ret
      have FA : Fr No V (V.alloc (.cells #[.int .u8 1] 5)) := (Fr.refl No V).alloc _
      have X1 : Blk (V.alloc (.cells #[.int .u8 1] 5)) wr.heap.size [1] := by rw [← HZ3.out]; exact heap_alloc_new V _
      have z4 : (V.alloc (.cells #[.int .u8 1] 5)).heap.size = wr.heap.size + 1 := by rw [← HZ3.out]; simp
      generalize V.alloc (.cells #[.int .u8 1] 5) = V1 at FA X1 z4 ⊢
      have FB : Fr No V1 (V1.alloc (.cells #[.int .u8 2] 5)) := (Fr.refl No V1).alloc _
      have X2 : Blk (V1.alloc (.cells #[.int .u8 2] 5)) (wr.heap.size + 1) [2] := by rw [← z4]; exact heap_alloc_new V1 _
      generalize V1.alloc (.cells #[.int .u8 2] 5) = V2 at FB X2 ⊢
      have FC : Fr No V V2 := FA.then_ FB
      have FW : Fr No w V2 := (HF.out.trans HF3.out (fun j hj => .inr (by subst hj; exact Nat.le_refl _))).then_ FC
      refine ⟨w.heap.size, g, wr.heap.size, wr.heap.size + 1, rfl, ⟨(HT3.out.fr FC id).congr (fun j hj => ?_), fun i hi => Blk.fr (Blk.fr (HM.out i hi (Nat.le_refl _)) HF3.out (by have := HB.out i hi; omega)) FC id, X1.fr FB id, X2, fun i j hi hj he => HI.out i j hi hj he, fun i hi => by have := HB.out i hi; omega, HL.out, hn⟩, ⟨Nat.le_refl _, fun i hi => by have := HB.out i hi; omega⟩, FW⟩
      unfold outV
      by_cases e : j = ls.length + 1
      · rw [if_pos e, if_neg (by omega), if_neg (by omega)]
      · rw [if_neg e]
        by_cases e2 : j = ls.length
        · rw [if_pos e2, if_neg (by omega), if_pos e2]
        · rw [if_neg e2, if_pos (by omega), if_pos (by omega), if_pos (by omega)]
end Go.Proofs.YtbaeddppihjgfaaDoor.Sg
