/- The walks of the reference's words and block. -/
import Derived.Test.YtbaeddppihjgfaaDoorShaRef
namespace Go.Proofs.YtbaeddppihjgfaaDoor.Sg
open Go Go.RowKit Go.Proofs.YtbaeddppihjgfaaDoorW.PrintWords
set_option linter.unusedVariables false
attribute [local go_sem] u_signed i_ones i_xor u_div8 u_div1024
/-- A block of n whole numbers. -/
def TabF (w : World) (g n : Nat) (ty : TypeId) (f : Nat → Int) : Prop := w.heap[g]? = some (.cells ((List.range n).map fun j => Value.int .i64 (f j)).toArray ty (0, 0))
section
variable {w w1 : World} {g n t : Nat} {ty : TypeId} {f f2 : Nat → Int}
theorem TabF.fr {S : Nat → Prop} (h : TabF w g n ty f) (hf : Fr S w w1) (hn : ¬ S g) : TabF w1 g n ty f := hf.heap h hn
theorem TabF.cell (h : TabF w g n ty f) (ht : t < n) : w.cell? ⟨g, t, none⟩ = some (.int .i64 (f t)) := by
  have hb : w.heap[g]? = some (.cells ((List.range n).map fun j => Value.int .i64 (f j)).toArray ty (0, 0)) := h
  simp [World.cell?, hb, ht]
theorem TabF.free (h : TabF w g n ty f) (j : Nat) : w.frozen? ⟨g, j, none⟩ = false := by
  have hb : w.heap[g]? = some (.cells ((List.range n).map fun j => Value.int .i64 (f j)).toArray ty (0, 0)) := h
  simp [World.frozen?, hb]
theorem TabF.congr (h : TabF w g n ty f) (hf : ∀ j, j < n → f j = f2 j) : TabF w g n ty f2 := by
  have hb : w.heap[g]? = some (.cells ((List.range n).map fun j => Value.int .i64 (f j)).toArray ty (0, 0)) := h
  unfold TabF
  rw [hb]
  congr 3
  apply List.map_congr_left
  intro j hj
  rw [hf j (by simpa using hj)]
theorem TabF.set (h : TabF w g n ty f) (v : Int) : TabF (w.setCell ⟨g, t, none⟩ (.int .i64 v)) g n ty (fun j => if j = t then v else f j) := by
  refine blk_put h t _ ?_
  apply Array.ext
  · simp
  · intro i h1 h2
    simp only [List.setIfInBounds_toArray, List.getElem_toArray]
    rw [List.getElem_set]
    simp only [List.getElem_map, List.getElem_range]
    by_cases e : t = i
    · subst e; simp
    · rw [if_neg e, if_neg (fun h => e h.symm)]
end
/-- The first i bytes of word t. -/
def partW (l : List UInt8) (t : Nat) : Nat → Int
  | 0 => 0
  | i + 1 => 256 * partW l t i + ((l.getD (4 * t + i) 0).toNat : Int)
theorem partW_4 (l : List UInt8) (t : Nat) : partW l t 4 = un (blockW l t) := by
  unfold blockW
  rw [un_be4]
  simp only [partW, Nat.add_zero]
  omega
theorem partW_le (l : List UInt8) (t : Nat) : ∀ i, i ≤ 4 → 0 ≤ partW l t i ∧ partW l t i < 4294967296
  | 0, _ => by simp [partW]
  | 1, _ => by have := (l.getD (4 * t + 0) 0).toNat_lt; simp only [partW]; omega
  | 2, _ => by have := (l.getD (4 * t + 0) 0).toNat_lt; have := (l.getD (4 * t + 1) 0).toNat_lt; simp only [partW]; omega
  | 3, _ => by have := (l.getD (4 * t + 0) 0).toNat_lt; have := (l.getD (4 * t + 1) 0).toNat_lt; have := (l.getD (4 * t + 2) 0).toNat_lt; simp only [partW]; omega
  | 4, _ => by rw [partW_4]; exact ⟨un_nonneg _, un_lt _⟩
def zero64 : Array Value := #[.int .i64 0, .int .i64 0, .int .i64 0, .int .i64 0, .int .i64 0, .int .i64 0, .int .i64 0, .int .i64 0, .int .i64 0, .int .i64 0, .int .i64 0, .int .i64 0, .int .i64 0, .int .i64 0, .int .i64 0, .int .i64 0, .int .i64 0, .int .i64 0, .int .i64 0, .int .i64 0, .int .i64 0, .int .i64 0, .int .i64 0, .int .i64 0, .int .i64 0, .int .i64 0, .int .i64 0, .int .i64 0, .int .i64 0, .int .i64 0, .int .i64 0, .int .i64 0, .int .i64 0, .int .i64 0, .int .i64 0, .int .i64 0, .int .i64 0, .int .i64 0, .int .i64 0, .int .i64 0, .int .i64 0, .int .i64 0, .int .i64 0, .int .i64 0, .int .i64 0, .int .i64 0, .int .i64 0, .int .i64 0, .int .i64 0, .int .i64 0, .int .i64 0, .int .i64 0, .int .i64 0, .int .i64 0, .int .i64 0, .int .i64 0, .int .i64 0, .int .i64 0, .int .i64 0, .int .i64 0, .int .i64 0, .int .i64 0, .int .i64 0, .int .i64 0]
set_option maxRecDepth 100000 in
theorem zero64_tab : zero64 = ((List.range 64).map fun _ => Value.int .i64 0).toArray := by rfl
theorem refWords_world (w : World) : ∃ W0, W0 = (w.alloc (.cells zero64 80)).alloc (.cells zero64 80) ∧
    W0.heap[w.heap.size]? = some (.cells zero64 80 (0, 0)) ∧ TabF W0 (w.heap.size + 1) 64 80 (fun _ => 0) ∧ Fr No w W0 := by
  generalize h1 : w.alloc (.cells zero64 80) = w1
  have f1 : Fr No w w1 := by rw [← h1]; exact (Fr.refl No w).alloc _
  have z1 : w1.heap.size = w.heap.size + 1 := by rw [← h1]; simp
  have b1 : w1.heap[w.heap.size]? = some (.cells zero64 80 (0, 0)) := by rw [← h1]; exact heap_alloc_new w _
  refine ⟨_, rfl, ((Fr.refl No w1).alloc _).heap b1 id, ?_, f1.alloc _⟩
  unfold TabF
  rw [← z1, heap_alloc_new, zero64_tab]
set_option maxRecDepth 100000 in
set_option maxHeartbeats 4000000 in
theorem refWords_calls (l : List UInt8) (at0 : Nat) (hat : at0 + 64 ≤ l.length) (A : Option Addr) (c : Nat) (w : World) (hr : Rb w A l) (hl : l.length ≤ 140737488353280) :
    Calls Tryd.prog 56 #[.slice A l.length c, .int .i64 (at0 : Int)] w fun e w' => ∃ cs : Array Value, e = .returned (.agg cs) ∧ cs = ((List.range 64).map fun t => Value.int .i64 (un (wt (blockW (l.drop at0)) t))).toArray ∧ Fr No w w' := by
  have HR := Aside0.mk hr
  clear hr
  obtain ⟨W0, hW0, h1, h2, h3⟩ := refWords_world w
  have HW0 := Aside0.mk hW0
  have HZ := Aside0.mk h1; have HT := Aside0.mk h2; have HF := Aside0.mk h3
  clear hW0 h1 h2 h3
  go_enter Tryd.func56, Tryd.ntmps56
  go_wp2
  have hW := HW0.out
  unfold zero64 at hW
  rw [← hW]
  clear hW HW0
  go_loopw [6] (fun i wr => ∃ t : Nat, t ≤ 16 ∧ i = .int .i64 t ∧ Aside0 (TabF wr (w.heap.size + 1) 64 80 (fun j => if j < t then un (wt (blockW (l.drop at0)) j) else 0)) ∧ Aside0 (wr.heap[w.heap.size]? = some (.cells zero64 80 (0, 0))) ∧ Aside0 (Fr No w wr)) (fun i _ => 16 - (intOf i).toNat)
  case atStart => exact ⟨0, by omega, rfl, ⟨HT.out.congr (fun j _ => by simp)⟩, HZ, HF⟩
  case round =>
    clear HT HZ HF
    obtain ⟨t, ht, rfl, HT, HZ, HF⟩ := hrel
    by_cases hlt : t < 16
    · go_wp2
      go_loopw [7] (fun i wr => ∃ k : Nat, k ≤ 4 ∧ i = .int .i64 k ∧ Aside0 (TabF wr (w.heap.size + 1) 64 80 (fun j => if j = t then partW (l.drop at0) t k else if j < t then un (wt (blockW (l.drop at0)) j) else 0)) ∧ Aside0 (wr.heap[w.heap.size]? = some (.cells zero64 80 (0, 0))) ∧ Aside0 (Fr No w wr)) (fun i _ => 4 - (intOf i).toNat)
      case atStart => exact ⟨0, by omega, rfl, ⟨HT.out.congr (fun j _ => by by_cases e : j = t <;> simp [e, partW])⟩, HZ, HF⟩
      case round =>
        clear HT HZ HF
        obtain ⟨k, hk, rfl, HT, HZ, HF⟩ := hrel
        by_cases hlt4 : k < 4
        · obtain ⟨ad, hA, hcell⟩ := C_byte (C_fr HR.out HF.out) (at0 + 4 * t + k) (by omega)
          subst hA
          have hct := HT.out.cell (t := t) (by omega)
          simp only [if_true] at hct
          have hfz := HT.out.free t
          have HS := Aside0.mk (HT.out.set (t := t) (256 * partW (l.drop at0) t k + un (b2w (l[at0 + 4 * t + k]'(by omega)))))
          have HP : Aside0 (256 * partW (l.drop at0) t k + un (b2w (l[at0 + 4 * t + k]'(by omega))) = partW (l.drop at0) t (k + 1)) := ⟨by
            rw [un_b2w]
            simp only [partW, List.getD_eq_getElem?_getD, List.getElem?_drop]
            rw [show at0 + (4 * t + k) = at0 + 4 * t + k by omega, List.getElem?_eq_getElem (by omega)]
            rfl⟩
          obtain ⟨hp0, hp1⟩ := partW_le (l.drop at0) t k (by omega)
          generalize l[at0 + 4 * t + k]'(by omega) = x at hcell HS HP
          generalize partW (l.drop at0) t k = pv at hct HS HP hp0 hp1
          have hx0 := un_nonneg (b2w x)
          have hx1 := un_lt (b2w x)
          have hk0 : (0 : Int) ≤ (k : Int) := by omega
          have hk1 : (k : Int) < 4 := by omega
          have ht0 : (0 : Int) ≤ (t : Int) := by omega
          have ht1 : (t : Int) < 16 := by omega
          have ha1 : (at0 : Int) + 64 ≤ (l.length : Int) := by omega
          go_wp2_with fail
          go_region
          go_wp2
          refine ⟨⟨k + 1, by omega, by go_num, ⟨?_⟩, ⟨?_⟩, ⟨(HF.out.setCell (.inr (by simp only []; omega)) _).drew⟩⟩, by simp [intOf]; omega⟩
          · rw [← HP.out]
            refine TabF.congr (HS.out) (fun j _ => ?_)
            by_cases e : j = t <;> simp [e]
          · exact ((Fr.refl (fun j => j = w.heap.size + 1) wr).setCell (.inl rfl) _).drew.heap HZ.out (by omega)
        · obtain rfl : k = 4 := by omega
          go_wp2
          refine ⟨⟨t + 1, by omega, by go_num, ⟨HT.out.congr (fun j _ => ?_)⟩, HZ, HF⟩, by simp [intOf]; omega⟩
          by_cases e : j = t
          · subst e
            rw [if_pos rfl, if_pos (by omega), partW_4, wt_low _ _ hlt]
          · rw [if_neg e]
            by_cases e2 : j < t
            · rw [if_pos e2, if_pos (by omega)]
            · rw [if_neg e2, if_neg (by omega)]
    · obtain rfl : t = 16 := by omega
      go_wp2
      generalize hm : blockW (l.drop at0) = m at *
      go_loopw [8] (fun i wr => ∃ t : Nat, 16 ≤ t ∧ t ≤ 64 ∧ i = .int .i64 t ∧ Aside0 (TabF wr (w.heap.size + 1) 64 80 (fun j => if j < t then un (wt m j) else 0)) ∧ Aside0 (wr.heap[w.heap.size]? = some (.cells zero64 80 (0, 0))) ∧ Aside0 (Fr No w wr)) (fun i _ => 64 - (intOf i).toNat)
      case atStart => exact ⟨16, by omega, by omega, rfl, HT, HZ, HF⟩
      case round =>
        clear HT HZ HF hlt ht
        obtain ⟨t, ht16, ht, rfl, HT, HZ, HF⟩ := hrel
        by_cases hlt : t < 64
        · obtain ⟨i15, h15⟩ : ∃ i : Nat, t - 15 = i := ⟨_, rfl⟩
          obtain ⟨i2, h2⟩ : ∃ i : Nat, t - 2 = i := ⟨_, rfl⟩
          obtain ⟨i7, h7⟩ : ∃ i : Nat, t - 7 = i := ⟨_, rfl⟩
          obtain ⟨i16, h16⟩ : ∃ i : Nat, t - 16 = i := ⟨_, rfl⟩
          have e15 : (t : Int) - 15 = (i15 : Int) := by omega
          have e2 : (t : Int) - 2 = (i2 : Int) := by omega
          have e7 : (t : Int) - 7 = (i7 : Int) := by omega
          have e16 : (t : Int) - 16 = (i16 : Int) := by omega
          have c15 := HT.out.cell (t := i15) (by omega)
          have c2 := HT.out.cell (t := i2) (by omega)
          have c7 := HT.out.cell (t := i7) (by omega)
          have c16 := HT.out.cell (t := i16) (by omega)
          simp only [show i15 < t by omega, show i2 < t by omega, show i7 < t by omega, show i16 < t by omega, if_true] at c15 c2 c7 c16
          have HW := wt_high m t (by omega)
          rw [h15, h2, h7, h16] at HW
          replace HW := Aside0.mk HW
          generalize wt m i15 = x at c15 HW
          generalize wt m i2 = y at c2 HW
          generalize wt m i7 = z7 at c7 HW
          generalize wt m i16 = z16 at c16 HW
          have hl15 : (i15 : Int) < 64 := by omega
          have hl2 : (i2 : Int) < 64 := by omega
          have hl7 : (i7 : Int) < 64 := by omega
          have hl16 : (i16 : Int) < 64 := by omega
          go_wp2_with fail
          refine (turned_calls x 7 (by decide) (by decide) _).mono ?_
          rintro e w2 ⟨rfl, rfl⟩
          go_wp2_with fail
          refine (turned_calls x 18 (by decide) (by decide) _).mono ?_
          rintro e w2 ⟨rfl, rfl⟩
          go_wp2_with fail
          refine (turned_calls y 17 (by decide) (by decide) _).mono ?_
          rintro e w2 ⟨rfl, rfl⟩
          go_wp2_with fail
          refine (turned_calls y 19 (by decide) (by decide) _).mono ?_
          rintro e w2 ⟨rfl, rfl⟩
          go_wp2_with fail
          have e0 : (x >>> 7 ||| x <<< 25) ^^^ (x >>> 18 ||| x <<< 14) ^^^ x >>> 3 = sig0 x := by unfold sig0; rw [BitVec.or_comm (x >>> 7), BitVec.or_comm (x >>> 18)]
          have e1 : (y >>> 17 ||| y <<< 15) ^^^ (y >>> 19 ||| y <<< 13) ^^^ y >>> 10 = sig1 y := by unfold sig1; rw [BitVec.or_comm (y >>> 17), BitVec.or_comm (y >>> 19)]
          rw [e0, e1]
          clear e0 e1
          generalize sig0 x = p0 at HW ⊢
          generalize sig1 y = p1 at HW ⊢
          have b0 := un_nonneg p0; have b1 := un_lt p0; have b2 := un_nonneg p1; have b3 := un_lt p1
          have b4 := un_nonneg z7; have b5 := un_lt z7; have b6 := un_nonneg z16; have b7 := un_lt z16
          have ht0 : (t : Int) < 64 := by omega
          have hct := HT.out.cell (t := t) (by omega)
          have hfz := HT.out.free t
          go_region
          go_wp2
          go_roundw
          case rel =>
            refine ⟨_, _, _, _, _, _, _, _, _, _, _, _, _, _, _, _, _, _, _, _, _, _, _, _, _, _, _, _, _, _, _, _, _, _, _, _, _, _, _, _, _, _, _, _, _, _, _, _, _, ⟨t + 1, by omega, by omega, by go_num, ⟨?_⟩, ⟨?_⟩, ⟨?_⟩⟩, rfl⟩
            · refine TabF.congr (HT.out.set (t := t) _) (fun j _ => ?_)
              by_cases e : j = t
              · subst e
                rw [if_pos rfl, if_pos (by omega), HW.out, ofInt_add, ofInt_add, ofInt_add, ofInt_un, ofInt_un, ofInt_un, ofInt_un, BitVec.add_comm]
              · rw [if_neg e]
                by_cases e2 : j < t
                · rw [if_pos e2, if_pos (by omega)]
                · rw [if_neg e2, if_neg (by omega)]
            · exact ((Fr.refl (fun j => j = w.heap.size + 1) wr).setCell (.inl rfl) _).heap HZ.out (by omega)
            · exact (((((HF.out.setCell (.inr (by simp only []; omega)) _).drew).drew).drew).drew).drew
          case measure => simp [intOf]; omega
        · obtain rfl : t = 64 := by omega
          have hT : TabF wr (w.heap.size + 1) 64 80 (fun j => un (wt m j)) := HT.out.congr (fun j hj => if_pos hj)
          have hone : (((List.range 64).map fun j => Value.int .i64 (un (wt m j))).toArray).all (·.oneCell') = true := by simp [Value.oneCell']
          have hsz : (((List.range 64).map fun j => Value.int .i64 (un (wt m j))).toArray).size = 64 := by simp
          have hT2 : wr.heap[w.heap.size + 1]? = some (.cells ((List.range 64).map fun j => Value.int .i64 (un (wt m j))).toArray 80 (0, 0)) := hT
          generalize hCS : ((List.range 64).map fun j => Value.int .i64 (un (wt m j))).toArray = CS at hT2 hone hsz ⊢
          have HCS := Aside0.mk hCS
          clear hCS
          have HTB := Aside0.mk hT2; have HONE := Aside0.mk hone; have HSZ := Aside0.mk hsz
          clear hT hT2 hone hsz HT
          go_wp2_with (first
            | refine wpList_load_row rfl _ _ rfl (w.heap.size + 1) rfl 80 CS _ (.array 64 3) HTB.out rfl rfl (by rw [HSZ.out]; rfl) ?_
            | refine wpList_store_row rfl _ _ _ rfl w.heap.size CS rfl rfl 80 zero64 HZ.out (by rw [HSZ.out]; rfl) (by rw [HSZ.out]; rfl) HONE.out ?_)
          try simp only [Exit.inBlock, Exit.then]
          refine bodyPost_ret (results_cell_row rfl _ _ w.heap.size 80 _ _ (.array 64 3) rfl (setRow_heap wr w.heap.size _ _ 80 _ HZ.out) rfl rfl (by rw [HSZ.out]; rfl)) rfl ?_
          exact ⟨_, rfl, by rw [hm]; exact HCS.out.symm, HF.out.setRow (.inr (Nat.le_refl _)) _⟩
end Go.Proofs.YtbaeddppihjgfaaDoor.Sg
