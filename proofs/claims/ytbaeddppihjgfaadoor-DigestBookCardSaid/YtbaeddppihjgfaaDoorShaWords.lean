/- The walks that read a block's words. -/
import Derived.Test.YtbaeddppihjgfaaDoorShaNext
namespace Go.Proofs.YtbaeddppihjgfaaDoor.Sg
open Go Go.RowKit Go.Proofs.YtbaeddppihjgfaaDoorW.PrintWords
set_option linter.unusedVariables false
attribute [local go_sem] u_signed u_xor u_and u_or u_add u_add' u_not u_div8 u_div1024 u_wrap u_wrap'
theorem u_shl24 (x : W) : un x * (16777216 : Int) % 4294967296 = un (x <<< (24 : Nat)) := u_shl' x 24
theorem u_shl16 (x : W) : un x * (65536 : Int) % 4294967296 = un (x <<< (16 : Nat)) := u_shl' x 16
theorem u_shl8 (x : W) : un x * (256 : Int) % 4294967296 = un (x <<< (8 : Nat)) := u_shl' x 8
theorem u_shl24' (x : W) : IntKind.u32.wrap (un x * (16777216 : Int)) = un (x <<< (24 : Nat)) := u_shl x 24
theorem u_shl16' (x : W) : IntKind.u32.wrap (un x * (65536 : Int)) = un (x <<< (16 : Nat)) := u_shl x 16
theorem u_shl8' (x : W) : IntKind.u32.wrap (un x * (256 : Int)) = un (x <<< (8 : Nat)) := u_shl x 8
attribute [local go_sem] u_shl24 u_shl16 u_shl8 u_shl24' u_shl16' u_shl8'
/-- The first t words told, the others nought. -/
def toldL (m : Nat → W) (t : Nat) : List Value := (List.range 16).map fun j => .int .u32 (if j < t then un (m j) else 0)
def Told (w : World) (g : Nat) (m : Nat → W) (t : Nat) : Prop := w.heap[g]? = some (.cells (toldL m t).toArray 88 (0, 0))
section
variable {w : World} {g t : Nat} {m : Nat → W}
theorem Told.free (h : Told w g m t) (j : Nat) : w.frozen? ⟨g, j, none⟩ = false := by
  have hb : w.heap[g]? = some (.cells (toldL m t).toArray 88 (0, 0)) := h
  simp [World.frozen?, hb]
theorem Told.cell (h : Told w g m t) (ht : t < 16) : w.cell? ⟨g, t, none⟩ = some (.int .u32 0) := by
  have hb : w.heap[g]? = some (.cells (toldL m t).toArray 88 (0, 0)) := h
  simp [World.cell?, hb, toldL, ht]
theorem Told.set (h : Told w g m t) : Told (w.setCell ⟨g, t, none⟩ (.int .u32 (un (m t)))) g m (t + 1) := by
  have hb : w.heap[g]? = some (.cells (toldL m t).toArray 88 (0, 0)) := h
  refine blk_put hb _ _ ?_
  apply Array.ext
  · simp [toldL]
  · intro i h1 h2
    have hi : i < 16 := by simpa [toldL] using h2
    simp only [List.setIfInBounds_toArray, List.getElem_toArray]
    rw [List.getElem_set]
    simp only [toldL, List.getElem_map, List.getElem_range]
    by_cases e : t = i
    · subst e
      rw [if_pos rfl, if_pos (by omega)]
    · rw [if_neg e]
      by_cases e2 : i < t
      · rw [if_pos e2, if_pos (by omega)]
      · rw [if_neg e2, if_neg (by omega)]
theorem told_all (h : Told w g m 16) : w.heap[g]? = some (.cells (words16 m) 88 (0, 0)) := h
theorem told_new (w : World) (m : Nat → W) : Told (w.alloc (.cells #[.int .u32 0, .int .u32 0, .int .u32 0, .int .u32 0, .int .u32 0, .int .u32 0, .int .u32 0, .int .u32 0, .int .u32 0, .int .u32 0, .int .u32 0, .int .u32 0, .int .u32 0, .int .u32 0, .int .u32 0, .int .u32 0] 88)) w.heap.size m 0 := heap_alloc_new w _
end
theorem Fr.setRow {S : Nat → Prop} {w w1 : World} (h : Fr S w w1) {g : Nat} (hg : S g ∨ w.heap.size ≤ g) (cs : Array Value) : Fr S w (w1.setRow g cs) :=
  h.trans (S2 := fun k => k = g) ⟨rfl, rfl, rfl, by simp [World.setRow], fun k hk hn => by simp [World.setRow, Array.getElem?_modify, Ne.symm hn]⟩ (fun k hk => by rw [hk]; exact hg)
def zero16 : Array Value := #[.int .u32 0, .int .u32 0, .int .u32 0, .int .u32 0, .int .u32 0, .int .u32 0, .int .u32 0, .int .u32 0, .int .u32 0, .int .u32 0, .int .u32 0, .int .u32 0, .int .u32 0, .int .u32 0, .int .u32 0, .int .u32 0]
theorem words_world (w : World) (m : Nat → W) : ∃ W0, W0 = (w.alloc (.cells zero16 88)).alloc (.cells zero16 88) ∧
    W0.heap[w.heap.size]? = some (.cells zero16 88 (0, 0)) ∧ Told W0 (w.heap.size + 1) m 0 ∧ Fr No w W0 := by
  generalize h1 : w.alloc (.cells zero16 88) = w1
  have f1 : Fr No w w1 := by rw [← h1]; exact (Fr.refl No w).alloc _
  have z1 : w1.heap.size = w.heap.size + 1 := by rw [← h1]; simp
  have b1 : w1.heap[w.heap.size]? = some (.cells zero16 88 (0, 0)) := by rw [← h1]; exact heap_alloc_new w _
  refine ⟨_, rfl, ((Fr.refl No w1).alloc _).heap b1 id, ?_, f1.alloc _⟩
  rw [← z1]
  exact told_new w1 m
theorem be_words (l : List UInt8) (k : Nat) (h : 4 * k + 3 < l.length) :
    un (b2w (l[4 * k]'(by omega)) <<< (24 : Nat) ||| b2w (l[4 * k + 1]'(by omega)) <<< (16 : Nat) ||| b2w (l[4 * k + 2]'(by omega)) <<< (8 : Nat) ||| b2w (l[4 * k + 3]'(by omega))) = un (blockW l k) := by
  unfold blockW be4
  simp only [List.getD_eq_getElem?_getD]
  rw [List.getElem?_eq_getElem (by omega), List.getElem?_eq_getElem (by omega), List.getElem?_eq_getElem (by omega), List.getElem?_eq_getElem (by omega)]
  rfl
set_option maxRecDepth 100000 in
set_option maxHeartbeats 4000000 in
theorem words_calls (l : List UInt8) (h64 : 64 ≤ l.length) (A : Option Addr) (c : Nat) (w : World) (hr : Rb w A l) :
    Calls Tryd.prog 59 #[.slice A l.length c] w fun e w' => e = .returned (.agg (words16 (blockW l))) ∧ Fr No w w' := by
  have HR := Aside0.mk hr
  clear hr
  obtain ⟨W0, hW0, h1, h2, h3⟩ := words_world w (blockW l)
  have HW0 := Aside0.mk hW0
  have HZ := Aside0.mk h1; have HT := Aside0.mk h2; have HF := Aside0.mk h3
  clear hW0 h1 h2 h3
  go_enter Tryd.func59, Tryd.ntmps59
  go_wp2
  have hW := HW0.out
  unfold zero16 at hW
  rw [← hW]
  clear hW HW0
  go_loopw [5] (fun i wr => ∃ k : Nat, k ≤ 16 ∧ i = .int .i64 k ∧ Aside0 (Told wr (w.heap.size + 1) (blockW l) k) ∧ Aside0 (wr.heap[w.heap.size]? = some (.cells zero16 88 (0, 0))) ∧ Aside0 (Fr No w wr)) (fun i _ => 16 - (intOf i).toNat)
  case atStart => exact ⟨0, by omega, rfl, HT, HZ, HF⟩
  case round =>
    clear HT HZ HF
    obtain ⟨k, hk, rfl, HT, HZ, HF⟩ := hrel
    by_cases hlt : k < 16
    · have HR1 := C_fr HR.out HF.out
      obtain ⟨ad, hA, hc0⟩ := C_byte HR1 (4 * k) (by omega)
      obtain ⟨_, hA1, hc1⟩ := C_byte HR1 (4 * k + 1) (by omega)
      obtain ⟨_, hA2, hc2⟩ := C_byte HR1 (4 * k + 2) (by omega)
      obtain ⟨_, hA3, hc3⟩ := C_byte HR1 (4 * k + 3) (by omega)
      subst hA
      obtain rfl := Option.some.inj hA1
      obtain rfl := Option.some.inj hA2
      obtain rfl := Option.some.inj hA3
      clear hA1 hA2 hA3 HR1
      have HB := Aside0.mk (be_words l k (by omega))
      generalize l[4 * k]'(by omega) = x0 at hc0 HB
      generalize l[4 * k + 1]'(by omega) = x1 at hc1 HB
      generalize l[4 * k + 2]'(by omega) = x2 at hc2 HB
      generalize l[4 * k + 3]'(by omega) = x3 at hc3 HB
      have HS := HT.out.set
      rw [← HB.out] at HS
      replace HS := Aside0.mk HS
      have hfz := HT.out.free k
      have hd3 := hc3
      simp [go_sem] at hd3
      have hd2 := hc2
      simp [go_sem] at hd2
      have hd1 := hc1
      simp [go_sem] at hd1
      have hst := HT.out.cell hlt
      have hk0 : (0 : Int) ≤ (k : Int) := by omega
      have hk1 : (k : Int) < 16 := by omega
      have hk2 : 4 * (k : Int) + 3 < (l.length : Int) := by omega
      go_wp2_with fail
      go_region
      go_wp2
      refine ⟨⟨k + 1, by omega, by go_num, ⟨HS.out⟩, ⟨?_⟩, ⟨?_⟩⟩, by simp [intOf]; omega⟩
      · exact ((Fr.refl (fun j => j = w.heap.size + 1) wr).setCell (.inl rfl) _).drew.heap HZ.out (by omega)
      · exact (HF.out.setCell (.inr (by simp only []; omega)) _).drew
    · obtain rfl : k = 16 := by omega
      have hb := Aside0.mk (told_all HT.out)
      have hone : (words16 (blockW l)).all (·.oneCell') = true := by unfold words16; simp [Value.oneCell']
      go_wp2_with (first
        | refine wpList_load_row rfl _ _ rfl (w.heap.size + 1) rfl 88 _ _ (.array 16 76) hb.out rfl rfl rfl ?_
        | refine wpList_store_row rfl _ _ _ rfl w.heap.size (words16 (blockW l)) rfl rfl 88 zero16 HZ.out rfl rfl hone ?_)
      try simp only [Exit.inBlock, Exit.then]
      refine bodyPost_ret (results_cell_row rfl _ _ w.heap.size 88 _ _ (.array 16 76) rfl (setRow_heap wr w.heap.size _ _ 88 _ HZ.out) rfl rfl rfl) rfl ?_
      exact ⟨rfl, HF.out.setRow (.inr (Nat.le_refl _)) _⟩
end Go.Proofs.YtbaeddppihjgfaaDoor.Sg
