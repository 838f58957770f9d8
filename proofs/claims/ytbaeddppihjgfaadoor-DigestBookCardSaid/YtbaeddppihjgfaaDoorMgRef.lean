/- The walks of the reference's SHA-256. -/
import Derived.Test.YtbaeddppihjgfaaDoorMgHash
namespace Go.Proofs.YtbaeddppihjgfaaDoor.Sg
open Go Go.RowKit Go.Proofs.YtbaeddppihjgfaaDoorW.PrintWords
set_option linter.unusedVariables false
attribute [local go_sem] u_signed i_ones
theorem ofInt_mod (z : Int) : BitVec.ofInt 32 (z % 18446744073709551616) = BitVec.ofInt 32 z := by
  apply BitVec.eq_of_toNat_eq; rw [BitVec.toNat_ofInt, BitVec.toNat_ofInt]; omega
theorem ofInt_or (a b : Int) : BitVec.ofInt 32 (bits .or .i64 a b) = BitVec.ofInt 32 a ||| BitVec.ofInt 32 b := by
  have h : ∀ z : Int, (BitVec.ofInt 64 z).setWidth 32 = BitVec.ofInt 32 z := fun z => by
    apply BitVec.eq_of_toNat_eq; rw [BitVec.toNat_setWidth, BitVec.toNat_ofInt, BitVec.toNat_ofInt]; omega
  show BitVec.ofInt 32 (IntKind.i64.wrap ((BitVec.ofInt 64 a ||| BitVec.ofInt 64 b).toNat : Int)) = _
  rw [show IntKind.i64.wrap ((BitVec.ofInt 64 a ||| BitVec.ofInt 64 b).toNat : Int) = wrap64 ((BitVec.ofInt 64 a ||| BitVec.ofInt 64 b).toNat : Int) from by rw [IntKind.wrap_i64]; unfold wrap64; omega, ofInt_wrap, ← h a, ← h b, ← BitVec.setWidth_or]
  apply BitVec.eq_of_toNat_eq
  rw [BitVec.toNat_ofInt, BitVec.toNat_setWidth]
  omega
theorem turned_val (x : W) (n m : Nat) : BitVec.ofInt 32 (bits .or .i64 (un x / 2 ^ n) (wrap64 (un x * 2 ^ m))) = x >>> n ||| x <<< m := by
  rw [ofInt_or, u_shr, ofInt_un]
  congr 1
  rw [ofInt_wrap]
  apply BitVec.eq_of_toNat_eq
  rw [BitVec.toNat_shiftLeft, Nat.shiftLeft_eq, BitVec.toNat_ofInt]
  unfold un
  have e : ((x.toNat : Int) * 2 ^ m) = ((x.toNat * 2 ^ m : Nat) : Int) := by push_cast; rfl
  rw [e]
  omega
set_option maxRecDepth 100000 in
set_option maxHeartbeats 4000000 in
theorem turned_calls (x : W) (n : Nat) (h1 : 1 ≤ n) (h2 : n ≤ 31) (w : World) :
    Calls Tryd.prog 77 #[.int .i64 (un x), .int .i64 (n : Int)] w fun e w' => e = .returned (.int .i64 (un (x >>> n ||| x <<< (32 - n)))) ∧ w' = w.drew := by
  go_enter Tryd.func77, Tryd.ntmps77
  have hn0 : (0 : Int) ≤ (n : Int) := by omega
  have hn1 : (n : Int) ≤ 31 := by omega
  go_wp2_with fail
  go_region
  go_wp2
  go_ret
  exact ⟨congrArg (fun z => Ending.returned (.int .i64 (un z))) (turned_val x n (32 - n)), rfl⟩
theorem refPad_next (l : List UInt8) (k : Nat) : bi (l ++ 128 :: List.replicate k 0) ++ [0] = bi (l ++ 128 :: List.replicate (k + 1) 0) := by
  rw [List.replicate_succ' (n := k)]
  simp [bi]
theorem refPad_len (l : List UInt8) (k q : Nat) (hq : l.length + (k + 1) = q) : (l ++ (128 : UInt8) :: List.replicate k 0).length = q := by simp; omega
theorem refPad_step (l : List UInt8) (n j p : Nat) (hj : j < 8) (hp : 7 - j = p) : bi (l ++ (128 :: List.replicate (zerosOf n) 0 ++ (len8 n).take j)) ++ [((lenB n p).toNat : Int)] = bi (l ++ (128 :: List.replicate (zerosOf n) 0 ++ (len8 n).take (j + 1))) := by
  rw [bi_append, List.append_assoc, pad_step n j p hj hp, ← bi_append]
set_option maxRecDepth 100000 in
set_option maxHeartbeats 4000000 in
theorem padded_calls (l : List UInt8) (A : Option Addr) (c : Nat) (w : World) (hr : Rb w A l) (hl : l.length ≤ 140737488352256) :
    Calls Tryd.prog 55 #[.slice A l.length c] w fun e w' => ∃ v, e = .returned v ∧ Mine w' w.heap.size v (bi (l ++ padOf l.length)) ∧ Fr No w w' := by
  have HR := Aside0.mk hr
  have HLE := Aside0.mk hl
  clear hr
  go_enter Tryd.func55, Tryd.ntmps55
  go_wp2
  go_loopw [3, 4] (fun v i wr => ∃ k : Nat, k ≤ l.length ∧ i = .int .i64 k ∧ Aside0 (Mine wr w.heap.size v (bi (l.take k))) ∧ Aside0 (Fr No w wr)) (fun _ i _ => l.length - (intOf i).toNat)
  case atStart => exact ⟨0, by omega, rfl, ⟨Mine.nil _ _⟩, ⟨Fr.refl _ _⟩⟩
  case round =>
    obtain ⟨k, hk, rfl, HM, HF⟩ := hrel
    by_cases hlt : k < l.length
    · obtain ⟨ad, hA, hcell⟩ := C_byte (C_fr HR.out HF.out) k hlt
      subst hA
      have HT : Aside0 (bi (l.take k) ++ [un (b2w l[k])] = bi (l.take (k + 1))) := ⟨by rw [List.take_succ_eq_append_getElem hlt, bi_append, un_b2w]; rfl⟩
      have HLL : Aside0 ((bi (l.take k)).length + 1 ≤ 140737488355328) := ⟨by have := HLE.out; rw [bi_length, List.length_take]; omega⟩
      go_wp2_with (at_builtin; refine app_byte rfl _ _ 22 rfl Tryd.underlying22 infoU8 _ (bi (l.take k)) (un (b2w l[k])) rfl rfl HM.out HF.out HLL.out ?_; intro v1 w1 hm hf hg)
      rw [HT.out] at hm
      exact ⟨⟨k + 1, by omega, by go_num, ⟨hm⟩, ⟨hf⟩⟩, by simp [intOf]; omega⟩
    · obtain rfl : k = l.length := by omega
      rw [List.take_length] at HM
      have HLL : Aside0 ((bi l).length + 1 ≤ 140737488355328) := ⟨by have := HLE.out; rw [bi_length]; omega⟩
      go_wp2_with (at_builtin; refine app_byte rfl _ _ 22 rfl Tryd.underlying22 infoU8 _ (bi l) 128 rfl rfl HM.out HF.out HLL.out ?_; intro v1 w1 hm hf hg)
      have HM1 : Aside0 (Mine w1 w.heap.size v1 (bi (l ++ 128 :: List.replicate 0 0))) := ⟨by rw [bi_append]; exact hm⟩
      have HF1 := Aside0.mk hf
      clear hm hf hg HM HF HLL
      go_loopw [3] (fun v wr => ∃ k : Nat, k ≤ zerosOf l.length ∧ Aside0 (Mine wr w.heap.size v (bi (l ++ 128 :: List.replicate k 0))) ∧ Aside0 (Fr No w wr)) (fun v _ => l.length + 64 - lenOf v)
      case atStart => exact ⟨0, Nat.zero_le _, HM1, HF1⟩
      case round =>
        clear HM1 HF1
        obtain ⟨k, hk, HM, HF⟩ := hrel
        obtain ⟨D, cd, hD, hcd, hrd⟩ := HM.out.reads
        obtain ⟨q, hq⟩ : ∃ q : Nat, l.length + (k + 1) = q := ⟨_, rfl⟩
        have hlq := refPad_len l k q hq
        rw [hlq] at hD hcd
        subst hD
        obtain ⟨r, hr⟩ : ∃ r : Nat, q % 64 = r := ⟨_, rfl⟩
        have hr56 := zeros_iff (q := k + 1) (r := r) hk rfl (by rw [hq]; exact hr)
        have hmod : (q : Int) % 64 = (r : Int) := by omega
        have HQ := Aside0.mk hq
        have HK56 := Aside0.mk hr56
        have hq2 : q ≤ 140737488352368 := by have := zeros_lt l.length; omega
        clear hq hr hr56
        by_cases h56 : r = 56
        · have hkz := HK56.out.1 h56
          have hmod56 : (q : Int) % 64 = 56 := by rw [hmod, h56]; rfl
          have HKZ := Aside0.mk hkz
          clear hmod h56 hkz HK56
          go_wp2
          have HM1 : Aside0 (Mine wr w.heap.size (.slice D q cd) (bi (l ++ (128 :: List.replicate (zerosOf l.length) 0 ++ (len8 l.length).take 0)))) := ⟨by have := HM.out; rw [HKZ.out] at this; simpa using this⟩
          clear hmod56 HM HKZ HQ hlq hcd hk hrd hq2
          go_loopw [3, 5] (fun v i wr => ∃ j : Nat, j ≤ 8 ∧ i = .int .i64 ((7 : Int) - (j : Int)) ∧ Aside0 (Mine wr w.heap.size v (bi (l ++ (128 :: List.replicate (zerosOf l.length) 0 ++ (len8 l.length).take j)))) ∧ Aside0 (Fr No w wr)) (fun _ i _ => (intOf i + 1).toNat)
          case atStart => exact ⟨0, by omega, rfl, HM1, HF⟩
          case round =>
            clear HM1 HF
            obtain ⟨j, hj, rfl, HM, HF⟩ := hrel
            by_cases hj8 : j < 8
            · obtain ⟨p, hp⟩ : ∃ p : Nat, 7 - j = p := ⟨_, rfl⟩
              have hpi : (7 : Int) - (j : Int) = (p : Int) := by omega
              have hp7 : p ≤ 7 := by omega
              rw [hpi]
              have HBY : Aside0 (8 * (l.length : Int) / 2 ^ (8 * p) % 256 = ((lenB l.length p).toNat : Int)) := ⟨by have := byte_len l.length p _ rfl; push_cast at this; exact this⟩
              have HLL : Aside0 ((bi (l ++ (128 :: List.replicate (zerosOf l.length) 0 ++ (len8 l.length).take j))).length + 1 ≤ 140737488355328) := ⟨by
                have hz := zeros_lt l.length
                rw [bi_length]
                simp [len8]
                omega⟩
              have HPS := Aside0.mk (refPad_step l l.length j p hj8 hp)
              have HJ := Aside0.mk (And.intro hj8 hp)
              clear hj8 hp hj hpi
              go_wp2_with (at_builtin; refine app_byte rfl _ _ 22 rfl Tryd.underlying22 infoU8 _ (bi (l ++ (128 :: List.replicate (zerosOf l.length) 0 ++ (len8 l.length).take j))) (8 * (l.length : Int) / 2 ^ (8 * p) % 256) rfl rfl HM.out HF.out HLL.out ?_; intro v1 w1 hm hf hg)
              rw [HBY.out, HPS.out] at hm
              refine ⟨⟨j + 1, HJ.out.1, ?_, ⟨hm⟩, ⟨hf⟩⟩, ?_⟩
              · have := HJ.out; congr 1; omega
              · simp only [intOf]; omega
            · obtain rfl : j = 8 := by omega
              have HMP : Aside0 (Mine wr w.heap.size u3 (bi (l ++ padOf l.length))) := HM
              go_wp2
              go_ret
              exact ⟨_, rfl, HMP.out, HF.out⟩
        · have hkz : k < zerosOf l.length := by have := mt HK56.out.2 h56; omega
          have hb56 : ((r : Int) == 56) = false := beq_eq_false_iff_ne.2 (by omega)
          have HLL : Aside0 ((bi (l ++ 128 :: List.replicate k 0)).length + 1 ≤ 140737488355328) := ⟨by rw [bi_length, hlq]; omega⟩
          have HKZ := Aside0.mk hkz
          clear HK56 h56 hkz hlq
          go_wp2_with (at_builtin; refine app_byte rfl _ _ 22 rfl Tryd.underlying22 infoU8 _ (bi (l ++ 128 :: List.replicate k 0)) 0 rfl rfl HM.out HF.out HLL.out ?_; intro v1 w1 hm hf hg)
          rw [refPad_next] at hm
          obtain ⟨D2, cd2, hD2, hcd2, _⟩ := hm.reads
          have hl2 := refPad_len l (k + 1) (q + 1) (by have := HQ.out; omega)
          rw [hl2] at hD2
          subst hD2
          exact ⟨⟨k + 1, HKZ.out, ⟨hm⟩, ⟨hf⟩⟩, by simp only [lenOf]; have := zeros_lt l.length; have := HKZ.out; have := HQ.out; omega⟩
end Go.Proofs.YtbaeddppihjgfaaDoor.Sg
namespace Go.Proofs.YtbaeddppihjgfaaDoor.Sg
open Go Go.RowKit Go.Proofs.YtbaeddppihjgfaaDoorW.PrintWords
set_option linter.unusedVariables false
attribute [local go_sem] u_signed i_ones i_xor u_div8 u_div1024
/-- A block of n whole numbers. -/
def TabF (w : World) (g n : Nat) (ty : TypeId) (f : Nat → Int) : Prop := w.heap[g]? = some (.cells ((List.range n).map fun j => Value.int .i64 (f j)).toArray ty (0, 0))
section
variable {w w1 : World} {g n t : Nat} {ty : TypeId} {f f2 : Nat → Int}
theorem TabF.fr {S : Nat → Prop} (h : TabF w g n ty f) (hf : Fr S w w1) (hn : ¬ S g) : TabF w1 g n ty f := hf.heap h hn
theorem TabF.cell (h : TabF w g n ty f) (ht : t < n) : w.cell? ⟨g, t, none⟩ = some (.int .i64 (f t)) := by
  have hb : w.heap[g]? = some (.cells ((List.range n).map fun j => Value.int .i64 (f j)).toArray ty (0, 0)) := h
  simp [World.cell?, hb, ht]
theorem TabF.free (h : TabF w g n ty f) (j : Nat) : w.frozen? ⟨g, j, none⟩ = false := by
  have hb : w.heap[g]? = some (.cells ((List.range n).map fun j => Value.int .i64 (f j)).toArray ty (0, 0)) := h
  simp [World.frozen?, hb]
theorem TabF.congr (h : TabF w g n ty f) (hf : ∀ j, j < n → f j = f2 j) : TabF w g n ty f2 := by
  have hb : w.heap[g]? = some (.cells ((List.range n).map fun j => Value.int .i64 (f j)).toArray ty (0, 0)) := h
  unfold TabF
  rw [hb]
  congr 3
  apply List.map_congr_left
  intro j hj
  rw [hf j (by simpa using hj)]
theorem TabF.set (h : TabF w g n ty f) (v : Int) : TabF (w.setCell ⟨g, t, none⟩ (.int .i64 v)) g n ty (fun j => if j = t then v else f j) := by
  refine blk_put h t _ ?_
  apply Array.ext
  · simp
  · intro i h1 h2
    simp only [List.setIfInBounds_toArray, List.getElem_toArray]
    rw [List.getElem_set]
    simp only [List.getElem_map, List.getElem_range]
    by_cases e : t = i
    · subst e; simp
    · rw [if_neg e, if_neg (fun h => e h.symm)]
end
/-- The first i bytes of word t. -/
def partW (l : List UInt8) (t : Nat) : Nat → Int
  | 0 => 0
  | i + 1 => 256 * partW l t i + ((l.getD (4 * t + i) 0).toNat : Int)
theorem partW_4 (l : List UInt8) (t : Nat) : partW l t 4 = un (blockW l t) := by
  unfold blockW
  rw [un_be4]
  simp only [partW, Nat.add_zero]
  omega
theorem partW_le (l : List UInt8) (t : Nat) : ∀ i, i ≤ 4 → 0 ≤ partW l t i ∧ partW l t i < 4294967296
  | 0, _ => by simp [partW]
  | 1, _ => by have := (l.getD (4 * t + 0) 0).toNat_lt; simp only [partW]; omega
  | 2, _ => by have := (l.getD (4 * t + 0) 0).toNat_lt; have := (l.getD (4 * t + 1) 0).toNat_lt; simp only [partW]; omega
  | 3, _ => by have := (l.getD (4 * t + 0) 0).toNat_lt; have := (l.getD (4 * t + 1) 0).toNat_lt; have := (l.getD (4 * t + 2) 0).toNat_lt; simp only [partW]; omega
  | 4, _ => by rw [partW_4]; exact ⟨un_nonneg _, un_lt _⟩
def zero64 : Array Value := #[.int .i64 0, .int .i64 0, .int .i64 0, .int .i64 0, .int .i64 0, .int .i64 0, .int .i64 0, .int .i64 0, .int .i64 0, .int .i64 0, .int .i64 0, .int .i64 0, .int .i64 0, .int .i64 0, .int .i64 0, .int .i64 0, .int .i64 0, .int .i64 0, .int .i64 0, .int .i64 0, .int .i64 0, .int .i64 0, .int .i64 0, .int .i64 0, .int .i64 0, .int .i64 0, .int .i64 0, .int .i64 0, .int .i64 0, .int .i64 0, .int .i64 0, .int .i64 0, .int .i64 0, .int .i64 0, .int .i64 0, .int .i64 0, .int .i64 0, .int .i64 0, .int .i64 0, .int .i64 0, .int .i64 0, .int .i64 0, .int .i64 0, .int .i64 0, .int .i64 0, .int .i64 0, .int .i64 0, .int .i64 0, .int .i64 0, .int .i64 0, .int .i64 0, .int .i64 0, .int .i64 0, .int .i64 0, .int .i64 0, .int .i64 0, .int .i64 0, .int .i64 0, .int .i64 0, .int .i64 0, .int .i64 0, .int .i64 0, .int .i64 0, .int .i64 0]
set_option maxRecDepth 100000 in
theorem zero64_tab : zero64 = ((List.range 64).map fun _ => Value.int .i64 0).toArray := by rfl
theorem refWords_world (w : World) : ∃ W0, W0 = (w.alloc (.cells zero64 80)).alloc (.cells zero64 80) ∧
    W0.heap[w.heap.size]? = some (.cells zero64 80 (0, 0)) ∧ TabF W0 (w.heap.size + 1) 64 80 (fun _ => 0) ∧ Fr No w W0 := by
  generalize h1 : w.alloc (.cells zero64 80) = w1
  have f1 : Fr No w w1 := by rw [← h1]; exact (Fr.refl No w).alloc _
  have z1 : w1.heap.size = w.heap.size + 1 := by rw [← h1]; simp
  have b1 : w1.heap[w.heap.size]? = some (.cells zero64 80 (0, 0)) := by rw [← h1]; exact heap_alloc_new w _
  refine ⟨_, rfl, ((Fr.refl No w1).alloc _).heap b1 id, ?_, f1.alloc _⟩
  unfold TabF
  rw [← z1, heap_alloc_new, zero64_tab]
set_option maxRecDepth 100000 in
set_option maxHeartbeats 4000000 in
theorem refWords_calls (l : List UInt8) (at0 : Nat) (hat : at0 + 64 ≤ l.length) (A : Option Addr) (c : Nat) (w : World) (hr : Rb w A l) (hl : l.length ≤ 140737488353280) :
    Calls Tryd.prog 56 #[.slice A l.length c, .int .i64 (at0 : Int)] w fun e w' => ∃ cs : Array Value, e = .returned (.agg cs) ∧ cs = ((List.range 64).map fun t => Value.int .i64 (un (wt (blockW (l.drop at0)) t))).toArray ∧ Fr No w w' := by
  have HR := Aside0.mk hr
  clear hr
  obtain ⟨W0, hW0, h1, h2, h3⟩ := refWords_world w
  have HW0 := Aside0.mk hW0
  have HZ := Aside0.mk h1; have HT := Aside0.mk h2; have HF := Aside0.mk h3
  clear hW0 h1 h2 h3
  go_enter Tryd.func56, Tryd.ntmps56
  go_wp2
  have hW := HW0.out
  unfold zero64 at hW
  rw [← hW]
  clear hW HW0
  go_loopw [6] (fun i wr => ∃ t : Nat, t ≤ 16 ∧ i = .int .i64 t ∧ Aside0 (TabF wr (w.heap.size + 1) 64 80 (fun j => if j < t then un (wt (blockW (l.drop at0)) j) else 0)) ∧ Aside0 (wr.heap[w.heap.size]? = some (.cells zero64 80 (0, 0))) ∧ Aside0 (Fr No w wr)) (fun i _ => 16 - (intOf i).toNat)
  case atStart => exact ⟨0, by omega, rfl, ⟨HT.out.congr (fun j _ => by simp)⟩, HZ, HF⟩
  case round =>
    clear HT HZ HF
    obtain ⟨t, ht, rfl, HT, HZ, HF⟩ := hrel
    by_cases hlt : t < 16
    · go_wp2
      go_loopw [7] (fun i wr => ∃ k : Nat, k ≤ 4 ∧ i = .int .i64 k ∧ Aside0 (TabF wr (w.heap.size + 1) 64 80 (fun j => if j = t then partW (l.drop at0) t k else if j < t then un (wt (blockW (l.drop at0)) j) else 0)) ∧ Aside0 (wr.heap[w.heap.size]? = some (.cells zero64 80 (0, 0))) ∧ Aside0 (Fr No w wr)) (fun i _ => 4 - (intOf i).toNat)
      case atStart => exact ⟨0, by omega, rfl, ⟨HT.out.congr (fun j _ => by by_cases e : j = t <;> simp [e, partW])⟩, HZ, HF⟩
      case round =>
        clear HT HZ HF
        obtain ⟨k, hk, rfl, HT, HZ, HF⟩ := hrel
        by_cases hlt4 : k < 4
        · obtain ⟨ad, hA, hcell⟩ := C_byte (C_fr HR.out HF.out) (at0 + 4 * t + k) (by omega)
          subst hA
          have hct := HT.out.cell (t := t) (by omega)
          simp only [if_true] at hct
          have hfz := HT.out.free t
          have HS := Aside0.mk (HT.out.set (t := t) (256 * partW (l.drop at0) t k + un (b2w (l[at0 + 4 * t + k]'(by omega)))))
          have HP : Aside0 (256 * partW (l.drop at0) t k + un (b2w (l[at0 + 4 * t + k]'(by omega))) = partW (l.drop at0) t (k + 1)) := ⟨by
            rw [un_b2w]
            simp only [partW, List.getD_eq_getElem?_getD, List.getElem?_drop]
            rw [show at0 + (4 * t + k) = at0 + 4 * t + k by omega, List.getElem?_eq_getElem (by omega)]
            rfl⟩
          obtain ⟨hp0, hp1⟩ := partW_le (l.drop at0) t k (by omega)
          generalize l[at0 + 4 * t + k]'(by omega) = x at hcell HS HP
          generalize partW (l.drop at0) t k = pv at hct HS HP hp0 hp1
          have hx0 := un_nonneg (b2w x)
          have hx1 := un_lt (b2w x)
          have hk0 : (0 : Int) ≤ (k : Int) := by omega
          have hk1 : (k : Int) < 4 := by omega
          have ht0 : (0 : Int) ≤ (t : Int) := by omega
          have ht1 : (t : Int) < 16 := by omega
          have ha1 : (at0 : Int) + 64 ≤ (l.length : Int) := by omega
          go_wp2_with fail
          go_region
          go_wp2
          refine ⟨⟨k + 1, by omega, by go_num, ⟨?_⟩, ⟨?_⟩, ⟨(HF.out.setCell (.inr (by simp only []; omega)) _).drew⟩⟩, by simp [intOf]; omega⟩
          · rw [← HP.out]
            refine TabF.congr (HS.out) (fun j _ => ?_)
            by_cases e : j = t <;> simp [e]
          · exact ((Fr.refl (fun j => j = w.heap.size + 1) wr).setCell (.inl rfl) _).drew.heap HZ.out (by omega)
        · obtain rfl : k = 4 := by omega
          go_wp2
          refine ⟨⟨t + 1, by omega, by go_num, ⟨HT.out.congr (fun j _ => ?_)⟩, HZ, HF⟩, by simp [intOf]; omega⟩
          by_cases e : j = t
          · subst e
            rw [if_pos rfl, if_pos (by omega), partW_4, wt_low _ _ hlt]
          · rw [if_neg e]
            by_cases e2 : j < t
            · rw [if_pos e2, if_pos (by omega)]
            · rw [if_neg e2, if_neg (by omega)]
    · obtain rfl : t = 16 := by omega
      go_wp2
      generalize hm : blockW (l.drop at0) = m at *
      go_loopw [8] (fun i wr => ∃ t : Nat, 16 ≤ t ∧ t ≤ 64 ∧ i = .int .i64 t ∧ Aside0 (TabF wr (w.heap.size + 1) 64 80 (fun j => if j < t then un (wt m j) else 0)) ∧ Aside0 (wr.heap[w.heap.size]? = some (.cells zero64 80 (0, 0))) ∧ Aside0 (Fr No w wr)) (fun i _ => 64 - (intOf i).toNat)
      case atStart => exact ⟨16, by omega, by omega, rfl, HT, HZ, HF⟩
      case round =>
        clear HT HZ HF hlt ht
        obtain ⟨t, ht16, ht, rfl, HT, HZ, HF⟩ := hrel
        by_cases hlt : t < 64
        · obtain ⟨i15, h15⟩ : ∃ i : Nat, t - 15 = i := ⟨_, rfl⟩
          obtain ⟨i2, h2⟩ : ∃ i : Nat, t - 2 = i := ⟨_, rfl⟩
          obtain ⟨i7, h7⟩ : ∃ i : Nat, t - 7 = i := ⟨_, rfl⟩
          obtain ⟨i16, h16⟩ : ∃ i : Nat, t - 16 = i := ⟨_, rfl⟩
          have e15 : (t : Int) - 15 = (i15 : Int) := by omega
          have e2 : (t : Int) - 2 = (i2 : Int) := by omega
          have e7 : (t : Int) - 7 = (i7 : Int) := by omega
          have e16 : (t : Int) - 16 = (i16 : Int) := by omega
          have c15 := HT.out.cell (t := i15) (by omega)
          have c2 := HT.out.cell (t := i2) (by omega)
          have c7 := HT.out.cell (t := i7) (by omega)
          have c16 := HT.out.cell (t := i16) (by omega)
          simp only [show i15 < t by omega, show i2 < t by omega, show i7 < t by omega, show i16 < t by omega, if_true] at c15 c2 c7 c16
          have HW := wt_high m t (by omega)
          rw [h15, h2, h7, h16] at HW
          replace HW := Aside0.mk HW
          generalize wt m i15 = x at c15 HW
          generalize wt m i2 = y at c2 HW
          generalize wt m i7 = z7 at c7 HW
          generalize wt m i16 = z16 at c16 HW
          have hl15 : (i15 : Int) < 64 := by omega
          have hl2 : (i2 : Int) < 64 := by omega
          have hl7 : (i7 : Int) < 64 := by omega
          have hl16 : (i16 : Int) < 64 := by omega
          go_wp2_with fail
          refine (turned_calls x 7 (by decide) (by decide) _).mono ?_
          rintro e w2 ⟨rfl, rfl⟩
          go_wp2_with fail
          refine (turned_calls x 18 (by decide) (by decide) _).mono ?_
          rintro e w2 ⟨rfl, rfl⟩
          go_wp2_with fail
          refine (turned_calls y 17 (by decide) (by decide) _).mono ?_
          rintro e w2 ⟨rfl, rfl⟩
          go_wp2_with fail
          refine (turned_calls y 19 (by decide) (by decide) _).mono ?_
          rintro e w2 ⟨rfl, rfl⟩
          go_wp2_with fail
          have e0 : (x >>> 7 ||| x <<< 25) ^^^ (x >>> 18 ||| x <<< 14) ^^^ x >>> 3 = sig0 x := by unfold sig0; rw [BitVec.or_comm (x >>> 7), BitVec.or_comm (x >>> 18)]
          have e1 : (y >>> 17 ||| y <<< 15) ^^^ (y >>> 19 ||| y <<< 13) ^^^ y >>> 10 = sig1 y := by unfold sig1; rw [BitVec.or_comm (y >>> 17), BitVec.or_comm (y >>> 19)]
          rw [e0, e1]
          clear e0 e1
          generalize sig0 x = p0 at HW ⊢
          generalize sig1 y = p1 at HW ⊢
          have b0 := un_nonneg p0; have b1 := un_lt p0; have b2 := un_nonneg p1; have b3 := un_lt p1
          have b4 := un_nonneg z7; have b5 := un_lt z7; have b6 := un_nonneg z16; have b7 := un_lt z16
          have ht0 : (t : Int) < 64 := by omega
          have hct := HT.out.cell (t := t) (by omega)
          have hfz := HT.out.free t
          go_region
          go_wp2
          go_roundw
          case rel =>
            refine ⟨_, _, _, _, _, _, _, _, _, _, _, _, _, _, _, _, _, _, _, _, _, _, _, _, _, _, _, _, _, _, _, _, _, _, _, _, _, _, _, _, _, _, _, _, _, _, _, _, _, ⟨t + 1, by omega, by omega, by go_num, ⟨?_⟩, ⟨?_⟩, ⟨?_⟩⟩, rfl⟩
            · refine TabF.congr (HT.out.set (t := t) _) (fun j _ => ?_)
              by_cases e : j = t
              · subst e
                rw [if_pos rfl, if_pos (by omega), HW.out, ofInt_add, ofInt_add, ofInt_add, ofInt_un, ofInt_un, ofInt_un, ofInt_un, BitVec.add_comm]
              · rw [if_neg e]
                by_cases e2 : j < t
                · rw [if_pos e2, if_pos (by omega)]
                · rw [if_neg e2, if_neg (by omega)]
            · exact ((Fr.refl (fun j => j = w.heap.size + 1) wr).setCell (.inl rfl) _).heap HZ.out (by omega)
            · exact (((((HF.out.setCell (.inr (by simp only []; omega)) _).drew).drew).drew).drew).drew
          case measure => simp [intOf]; omega
        · obtain rfl : t = 64 := by omega
          have hT : TabF wr (w.heap.size + 1) 64 80 (fun j => un (wt m j)) := HT.out.congr (fun j hj => if_pos hj)
          have hone : (((List.range 64).map fun j => Value.int .i64 (un (wt m j))).toArray).all (·.oneCell') = true := by simp [Value.oneCell']
          have hsz : (((List.range 64).map fun j => Value.int .i64 (un (wt m j))).toArray).size = 64 := by simp
          have hT2 : wr.heap[w.heap.size + 1]? = some (.cells ((List.range 64).map fun j => Value.int .i64 (un (wt m j))).toArray 80 (0, 0)) := hT
          generalize hCS : ((List.range 64).map fun j => Value.int .i64 (un (wt m j))).toArray = CS at hT2 hone hsz ⊢
          have HCS := Aside0.mk hCS
          clear hCS
          have HTB := Aside0.mk hT2; have HONE := Aside0.mk hone; have HSZ := Aside0.mk hsz
          clear hT hT2 hone hsz HT
          go_wp2_with (first
            | refine wpList_load_row rfl _ _ rfl (w.heap.size + 1) rfl 80 CS _ (.array 64 3) HTB.out rfl rfl (by rw [HSZ.out]; rfl) ?_
            | refine wpList_store_row rfl _ _ _ rfl w.heap.size CS rfl rfl 80 zero64 HZ.out (by rw [HSZ.out]; rfl) (by rw [HSZ.out]; rfl) HONE.out ?_)
          try simp only [Exit.inBlock, Exit.then]
          refine bodyPost_ret (results_cell_row rfl _ _ w.heap.size 80 _ _ (.array 64 3) rfl (setRow_heap wr w.heap.size _ _ 80 _ HZ.out) rfl rfl (by rw [HSZ.out]; rfl)) rfl ?_
          exact ⟨_, rfl, by rw [hm]; exact HCS.out.symm, HF.out.setRow (.inr (Nat.le_refl _)) _⟩
end Go.Proofs.YtbaeddppihjgfaaDoor.Sg
namespace Go.Proofs.YtbaeddppihjgfaaDoor.Sg
open Go Go.RowKit Go.Proofs.YtbaeddppihjgfaaDoorW.PrintWords
set_option linter.unusedVariables false
attribute [local go_sem] u_signed i_ones i_xor i_and i_or i_not
def state8i (s : S8) : Array Value := #[.int .i64 (un s.a), .int .i64 (un s.b), .int .i64 (un s.c), .int .i64 (un s.d), .int .i64 (un s.e), .int .i64 (un s.f), .int .i64 (un s.g), .int .i64 (un s.h)]
def wordsA (m : Nat → W) : Array Value := ((List.range 64).map fun t => Value.int .i64 (un (wt m t))).toArray
def KeysAt (w : World) : Prop := ∀ j, j < 64 → w.cell? ⟨2, j, none⟩ = some (.int .i64 (un (kL.getD j 0)))
theorem KeysAt.fr {S : Nat → Prop} {w w' : World} (h : KeysAt w) (hf : Fr S w w') (hn : ¬ S 2) : KeysAt w' := fun j hj => hf.cell (h j hj) hn
def zero8i : Array Value := #[.int .i64 0, .int .i64 0, .int .i64 0, .int .i64 0, .int .i64 0, .int .i64 0, .int .i64 0, .int .i64 0]
def St8i (w : World) (g : Nat) (s : S8) : Prop := w.heap[g]? = some (.cells (state8i s) 79 (0, 0))
def WsAt (w : World) (g : Nat) (m : Nat → W) : Prop := w.heap[g]? = some (.cells (wordsA m) 80 (0, 0))
theorem block_world (w : World) (s : S8) (m : Nat → W) : ∃ W0, W0 = (((w.alloc (.cells (state8i s) 79)).alloc (.cells (wordsA m) 80)).alloc (.cells zero8i 79)).alloc (.cells (state8i s) 79) ∧
    St8i W0 w.heap.size s ∧ WsAt W0 (w.heap.size + 1) m ∧ W0.heap[w.heap.size + 2]? = some (.cells zero8i 79 (0, 0)) ∧ St8i W0 (w.heap.size + 3) s ∧ Fr No w W0 := by
  generalize h1 : w.alloc (.cells (state8i s) 79) = w1
  have f1 : Fr No w w1 := by rw [← h1]; exact (Fr.refl No w).alloc _
  have z1 : w1.heap.size = w.heap.size + 1 := by rw [← h1]; simp
  have b1 : St8i w1 w.heap.size s := by rw [← h1]; exact heap_alloc_new w _
  generalize h2 : w1.alloc (.cells (wordsA m) 80) = w2
  have f2 : Fr No w1 w2 := by rw [← h2]; exact (Fr.refl No w1).alloc _
  have z2 : w2.heap.size = w1.heap.size + 1 := by rw [← h2]; simp
  have b2 : WsAt w2 w1.heap.size m := by rw [← h2]; exact heap_alloc_new w1 _
  generalize h3 : w2.alloc (.cells zero8i 79) = w3
  have f3 : Fr No w2 w3 := by rw [← h3]; exact (Fr.refl No w2).alloc _
  have z3 : w3.heap.size = w2.heap.size + 1 := by rw [← h3]; simp
  have b3 : w3.heap[w2.heap.size]? = some (.cells zero8i 79 (0, 0)) := by rw [← h3]; exact heap_alloc_new w2 _
  generalize h4 : w3.alloc (.cells (state8i s) 79) = w4
  have f4 : Fr No w3 w4 := by rw [← h4]; exact (Fr.refl No w3).alloc _
  have z4 : w4.heap.size = w3.heap.size + 1 := by rw [← h4]; simp
  have b4 : St8i w4 w3.heap.size s := by rw [← h4]; exact heap_alloc_new w3 _
  refine ⟨w4, rfl, ((f2.then_ f3).then_ f4).heap b1 id, ?_, ?_, ?_, ((f1.then_ f2).then_ f3).then_ f4⟩
  · rw [show w.heap.size + 1 = w1.heap.size by omega]; exact (f3.then_ f4).heap b2 id
  · rw [show w.heap.size + 2 = w2.heap.size by omega]; exact f4.heap b3 id
  · rw [show w.heap.size + 3 = w3.heap.size by omega]; exact b4
theorem WsAt.cell {w : World} {g : Nat} {m : Nat → W} (h : WsAt w g m) (t : Nat) (ht : t < 64) : w.cell? ⟨g, t, none⟩ = some (.int .i64 (un (wt m t))) := by
  have hb : w.heap[g]? = some (.cells (wordsA m) 80 (0, 0)) := h
  simp [World.cell?, hb, wordsA, ht]
theorem St8i.cells {w : World} {g : Nat} {s : S8} (h : St8i w g s) : w.cell? ⟨g, 0, none⟩ = some (.int .i64 (un s.a)) ∧ w.cell? ⟨g, 1, none⟩ = some (.int .i64 (un s.b)) ∧ w.cell? ⟨g, 2, none⟩ = some (.int .i64 (un s.c)) ∧ w.cell? ⟨g, 3, none⟩ = some (.int .i64 (un s.d)) ∧ w.cell? ⟨g, 4, none⟩ = some (.int .i64 (un s.e)) ∧ w.cell? ⟨g, 5, none⟩ = some (.int .i64 (un s.f)) ∧ w.cell? ⟨g, 6, none⟩ = some (.int .i64 (un s.g)) ∧ w.cell? ⟨g, 7, none⟩ = some (.int .i64 (un s.h)) := by
  have hb : w.heap[g]? = some (.cells (state8i s) 79 (0, 0)) := h
  simp [World.cell?, hb, state8i]
theorem St8i.free {w : World} {g : Nat} {s : S8} (h : St8i w g s) (j : Nat) : w.frozen? ⟨g, j, none⟩ = false := by
  have hb : w.heap[g]? = some (.cells (state8i s) 79 (0, 0)) := h
  simp [World.frozen?, hb]
theorem ch_or (e f g : W) : e &&& f ||| ~~~e &&& g = chW e f g := by
  unfold chW
  ext i
  simp
  cases e[i] <;> simp
theorem maj_or (a b c : W) : a &&& b ||| a &&& c ||| b &&& c = majW a b c := by
  unfold majW
  ext i
  simp
  cases a[i] <;> cases b[i] <;> cases c[i] <;> rfl
theorem turnedI_calls (x : W) (n : Int) (w : World) (h1 : 1 ≤ n) (h2 : n ≤ 31) :
    Calls Tryd.prog 77 #[.int .i64 (un x), .int .i64 n] w fun e w' => e = .returned (.int .i64 (un (x >>> n.toNat ||| x <<< (32 - n.toNat)))) ∧ w' = w.drew := by
  obtain ⟨k, rfl⟩ := Int.eq_ofNat_of_zero_le (show 0 ≤ n by omega)
  exact turned_calls x k (by omega) (by omega) w
theorem St8i.cellAt {w : World} {g t : Nat} {s : S8} (h : St8i w g s) (ht : t < 8) : w.cell? ⟨g, t, none⟩ = some (.int .i64 (un (s.list.getD t 0))) := by
  have hb : w.heap[g]? = some (.cells (state8i s) 79 (0, 0)) := h
  match t, ht with
  | 0, _ => simp [World.cell?, hb, S8.list, state8i]
  | 1, _ => simp [World.cell?, hb, S8.list, state8i]
  | 2, _ => simp [World.cell?, hb, S8.list, state8i]
  | 3, _ => simp [World.cell?, hb, S8.list, state8i]
  | 4, _ => simp [World.cell?, hb, S8.list, state8i]
  | 5, _ => simp [World.cell?, hb, S8.list, state8i]
  | 6, _ => simp [World.cell?, hb, S8.list, state8i]
  | 7, _ => simp [World.cell?, hb, S8.list, state8i]
theorem St8i.tab {w : World} {g : Nat} {v : S8} (h : St8i w g v) : TabF w g 8 79 (fun j => un (v.list.getD j 0)) := h
theorem state8i_tab (v : S8) : ((List.range 8).map fun j => Value.int .i64 (un (v.list.getD j 0))).toArray = state8i v := rfl
theorem turnE (e : W) : (e >>> 6 ||| e <<< 26) ^^^ (e >>> 11 ||| e <<< 21) ^^^ (e >>> 25 ||| e <<< 7) = bigE e := by
  unfold bigE; rw [BitVec.or_comm (e >>> 6), BitVec.or_comm (e >>> 11), BitVec.or_comm (e >>> 25)]
theorem turnA (a : W) : (a >>> 2 ||| a <<< 30) ^^^ (a >>> 13 ||| a <<< 19) ^^^ (a >>> 22 ||| a <<< 10) = bigA a := by
  unfold bigA; rw [BitVec.or_comm (a >>> 2), BitVec.or_comm (a >>> 13), BitVec.or_comm (a >>> 22)]
theorem turnedI_quiet (x : W) (n : Int) (w : World) (k : Nat) (h1 : 1 ≤ n) (h2 : n ≤ 31) :
    Calls Tryd.prog 77 #[.int .i64 (un x), .int .i64 n] (w.drewN k) fun e w' => e = .returned (.int .i64 (un (x >>> n.toNat ||| x <<< (32 - n.toNat)))) ∧ ∃ m, w' = w.drewN m :=
  Calls.quiet_of ((turnedI_calls x n _ h1 h2).mono fun _ _ h => ⟨h.1, 1, h.2⟩)
set_option maxRecDepth 100000 in
set_option maxHeartbeats 4000000 in
theorem refBlock_calls (s : S8) (m : Nat → W) (w : World) (hK : KeysAt w) :
    Calls Tryd.prog 57 #[.agg (state8i s), .agg (wordsA m)] w fun e w' => e = .returned (.agg (state8i (comp s m))) ∧ Fr No w w' := by
  have HK := Aside0.mk hK
  clear hK
  obtain ⟨W0, hW0, h1, h2, h3, h4, h5⟩ := block_world w s m
  have HS := Aside0.mk h1; have HW := Aside0.mk h2; have HZ := Aside0.mk h3; have HV := Aside0.mk h4; have HF := Aside0.mk h5
  have HW0 := Aside0.mk hW0
  clear h1 h2 h3 h4 h5 hW0
  go_enter Tryd.func57, Tryd.ntmps57
  generalize hpost : Value.agg (state8i (comp s m)) = POST
  unfold state8i
  go_wp2_with fail
  have hW := HW0.out
  unfold state8i zero8i at hW
  rw [← hW]
  clear hW HW0
  go_loopw [6] (fun i wr => ∃ t : Nat, t ≤ 64 ∧ i = .int .i64 t ∧ Aside0 (St8i wr (w.heap.size + 3) (rnds s m t)) ∧ Aside0 (St8i wr w.heap.size s) ∧ Aside0 (WsAt wr (w.heap.size + 1) m) ∧ Aside0 (wr.heap[w.heap.size + 2]? = some (.cells zero8i 79 (0, 0))) ∧ Aside0 (Fr No w wr)) (fun i _ => 64 - (intOf i).toNat)
  case atStart => exact ⟨0, by omega, rfl, HV, HS, HW, HZ, HF⟩
  case round =>
    clear HS HW HZ HV HF
    obtain ⟨t, ht, rfl, HV, HS, HW, HZ, HF⟩ := hrel
    by_cases hlt : t < 64
    · generalize hv : rnds s m t = v at HV
      have HR := Aside0.mk hv
      clear hv
      obtain ⟨a, b, c, d, e, f, g, h⟩ := v
      obtain ⟨d0, d1, d2, d3, d4, d5, d6, d7⟩ := HV.out.cells
      have cw := HW.out.cell t hlt
      have ck := (HK.out.fr HF.out id) t hlt
      have hfz := HV.out.free
      generalize hx : wt m t = x at cw
      generalize hkk : kL.getD t 0 = kk at ck
      have HN : Aside0 (rnds s m (t + 1) = rnd ⟨a, b, c, d, e, f, g, h⟩ kk x) := ⟨by
        show rnd (rnds s m t) (kL.getD t 0) (wt m t) = _
        rw [HR.out, hkk, hx]⟩
      clear hx hkk HR
      simp only [] at d0 d1 d2 d3 d4 d5 d6 d7
      have ht0 : (0 : Int) ≤ (t : Int) := by omega
      have ht1 : (t : Int) < 64 := by omega
      go_wp2_with fail
      rw [ch_or, maj_or]
      go_quiet ((go_at_call 77; exact turnedI_quiet _ _ _ _ (by decide) (by decide)))
      go_wp2_with fail
      generalize hX : wrap64 (_ + un x) = X
      have HX : Aside0 (BitVec.ofInt 32 X = h + bigE e + chW e f g + kk + x) := ⟨by rw [← hX, turnE]; simp only [ofInt_wrap, ofInt_add, ofInt_un]⟩
      clear hX
      refine (turnedI_calls a 2 _ (by decide) (by decide)).mono ?_
      rintro e1 w1 ⟨rfl, rfl⟩
      go_wp2_with fail
      refine (turnedI_calls a 13 _ (by decide) (by decide)).mono ?_
      rintro e1 w1 ⟨rfl, rfl⟩
      go_wp2_with fail
      refine (turnedI_calls a 22 _ (by decide) (by decide)).mono ?_
      rintro e1 w1 ⟨rfl, rfl⟩
      go_wp2_with fail
      have e0 : BitVec.ofInt 32 (wrap64 (X + wrap64 (un ((a >>> 2 ||| a <<< 30) ^^^ (a >>> 13 ||| a <<< 19) ^^^ (a >>> 22 ||| a <<< 10)) + un (majW a b c)))) = (rnd ⟨a, b, c, d, e, f, g, h⟩ kk x).a := by
        rw [ofInt_wrap, ofInt_add, ofInt_wrap, ofInt_add, ofInt_un, ofInt_un, HX.out, turnA]; rfl
      have e4 : BitVec.ofInt 32 (wrap64 (un d + X)) = (rnd ⟨a, b, c, d, e, f, g, h⟩ kk x).e := by
        rw [ofInt_wrap, ofInt_add, ofInt_un, HX.out]; rfl
      rw [e0, e4]
      clear e0 e4
      refine ⟨⟨t + 1, by omega, by go_num, ⟨?_⟩, ⟨(((Fr.refl (fun j => j = w.heap.size + 1 + 1 + 1) wr).drewN _).set8 (.inl rfl) _ _ _ _ _ _ _ _).heap HS.out (by omega)⟩, ⟨(((Fr.refl (fun j => j = w.heap.size + 1 + 1 + 1) wr).drewN _).set8 (.inl rfl) _ _ _ _ _ _ _ _).heap HW.out (by omega)⟩, ⟨(((Fr.refl (fun j => j = w.heap.size + 1 + 1 + 1) wr).drewN _).set8 (.inl rfl) _ _ _ _ _ _ _ _).heap HZ.out (by omega)⟩, ⟨(HF.out.drewN _).set8 (.inr (by omega)) _ _ _ _ _ _ _ _⟩⟩, by simp [intOf]; omega⟩
      rw [HN.out]
      exact Sg.set8 (w := wr.drewN _) (g := w.heap.size + 1 + 1 + 1) HV.out
    · obtain rfl : t = 64 := by omega
      have HW1 := HW
      clear HW
      generalize hv : rnds s m 64 = v at HV
      have HR := Aside0.mk hv
      clear hv
      go_wp2_with fail
      go_loopw [13] (fun i wr => ∃ k : Nat, k ≤ 8 ∧ i = .int .i64 k ∧ Aside0 (TabF wr (w.heap.size + 3) 8 79 (fun j => if j < k then un (s.list.getD j 0 + v.list.getD j 0) else un (v.list.getD j 0))) ∧ Aside0 (St8i wr w.heap.size s) ∧ Aside0 (wr.heap[w.heap.size + 2]? = some (.cells zero8i 79 (0, 0))) ∧ Aside0 (Fr No w wr)) (fun i _ => 8 - (intOf i).toNat)
      case atStart => exact ⟨0, by omega, rfl, ⟨HV.out.tab.congr (fun j _ => by simp)⟩, HS, HZ, HF⟩
      case round =>
        clear HV HS HZ HF HW1
        obtain ⟨k, hk, rfl, HT, HS, HZ, HF⟩ := hrel
        by_cases hlt : k < 8
        · have hc1 := HT.out.cell (t := k) hlt
          simp only [Nat.lt_irrefl, if_false] at hc1
          have hc2 := HS.out.cellAt hlt
          have hfz := HT.out.free k
          have hk0 : (0 : Int) ≤ (k : Int) := by omega
          have hk1 : (k : Int) < 8 := by omega
          have HE : Aside0 (∀ j, j < 8 → (if j = k then un (s.list.getD k 0 + v.list.getD k 0) else if j < k then un (s.list.getD j 0 + v.list.getD j 0) else un (v.list.getD j 0)) = (if j < k + 1 then un (s.list.getD j 0 + v.list.getD j 0) else un (v.list.getD j 0))) := ⟨fun j _ => by
            by_cases e : j = k
            · subst e
              rw [if_pos rfl, if_pos (by omega)]
            · rw [if_neg e]
              by_cases e2 : j < k
              · rw [if_pos e2, if_pos (by omega)]
              · rw [if_neg e2, if_neg (by omega)]⟩
          generalize s.list.getD k 0 = a at hc2 HE
          generalize v.list.getD k 0 = b at hc1 HE
          have b0 := un_nonneg a; have b1 := un_lt a; have b2 := un_nonneg b; have b3 := un_lt b
          have HA := Aside0.mk (HT.out.set (t := k) (un (a + b)))
          go_wp2_with fail
          go_region
          go_wp2
          have ev : BitVec.ofInt 32 (un b + un a) = a + b := by rw [ofInt_add, ofInt_un, ofInt_un, BitVec.add_comm]
          rw [ev]
          refine ⟨⟨k + 1, by omega, by go_num, ⟨HA.out.congr HE.out⟩, ⟨(((Fr.refl (fun j => j = w.heap.size + 1 + 1 + 1) wr).setCell (.inl rfl) _).drew).heap HS.out (by omega)⟩, ⟨(((Fr.refl (fun j => j = w.heap.size + 1 + 1 + 1) wr).setCell (.inl rfl) _).drew).heap HZ.out (by omega)⟩, ⟨(HF.out.setCell (.inr (by simp only []; omega)) _).drew⟩⟩, by simp [intOf]; omega⟩
        · obtain rfl : k = 8 := by omega
          have hT : TabF wr (w.heap.size + 3) 8 79 (fun j => un ((comp s m).list.getD j 0)) := HT.out.congr (fun j hj => by
            rw [if_pos hj, ← addS_at s v j hj, ← HR.out]; rfl)
          have hT2 : wr.heap[w.heap.size + 1 + 1 + 1]? = some (.cells (state8i (comp s m)) 79 (0, 0)) := hT
          have hone : (state8i (comp s m)).all (·.oneCell') = true := by simp [state8i, Value.oneCell']
          have hsz : (state8i (comp s m)).size = 8 := rfl
          generalize state8i (comp s m) = CS at hT2 hone hsz hpost
          have HTB := Aside0.mk hT2; have HONE := Aside0.mk hone; have HSZ := Aside0.mk hsz; have HP := Aside0.mk hpost
          have HZ1 : Aside0 (wr.heap[w.heap.size + 1 + 1]? = some (.cells zero8i 79 (0, 0))) := HZ
          clear hT hT2 hone hsz HT hpost HZ HR HS
          go_wp2_with (first
            | refine wpList_load_row rfl _ _ rfl (w.heap.size + 1 + 1 + 1) rfl 79 CS _ (.array 8 3) HTB.out rfl rfl (by rw [HSZ.out]; rfl) ?_
            | refine wpList_store_row rfl _ _ _ rfl (w.heap.size + 1 + 1) CS rfl rfl 79 zero8i HZ1.out (by rw [HSZ.out]; rfl) (by rw [HSZ.out]; rfl) HONE.out ?_)
          try simp only [Exit.inBlock, Exit.then]
          refine bodyPost_ret (results_cell_row rfl _ _ (w.heap.size + 1 + 1) 79 _ _ (.array 8 3) rfl (setRow_heap wr (w.heap.size + 1 + 1) _ _ 79 _ HZ1.out) rfl rfl (by rw [HSZ.out]; rfl)) rfl ?_
          exact ⟨by rw [← HP.out], HF.out.setRow (.inr (by omega)) _⟩
end Go.Proofs.YtbaeddppihjgfaaDoor.Sg
namespace Go.Proofs.YtbaeddppihjgfaaDoor.Sg
open Go Go.RowKit Go.Proofs.YtbaeddppihjgfaaDoorW.PrintWords
set_option linter.unusedVariables false
attribute [local go_sem] u_signed i_ones
theorem outB (x : W) (j p : Nat) (hj : j < 4) (hp : 3 - j = p) : bi ((outW x).take j) ++ [un x / 2 ^ (8 * p) % 256] = bi ((outW x).take (j + 1)) := by
  subst hp
  have b0 : un x / (16777216 : Int) % (256 : Int) = ((UInt8.ofNat (x >>> 24).toNat).toNat : Int) := by rw [u_div16777216]; unfold un; rw [UInt8.toNat_ofNat']; omega
  have b1 : un x / (65536 : Int) % (256 : Int) = ((UInt8.ofNat (x >>> 16).toNat).toNat : Int) := by rw [u_div65536]; unfold un; rw [UInt8.toNat_ofNat']; omega
  have b2 : un x / (256 : Int) % (256 : Int) = ((UInt8.ofNat (x >>> 8).toNat).toNat : Int) := by rw [u_div256]; unfold un; rw [UInt8.toNat_ofNat']; omega
  have b3 : un x / (1 : Int) % (256 : Int) = ((UInt8.ofNat x.toNat).toNat : Int) := by unfold un; rw [UInt8.toNat_ofNat']; omega
  match j, hj with
  | 0, _ => exact congrArg (fun z => [z]) b0
  | 1, _ => exact congrArg (fun z => [_, z]) b1
  | 2, _ => exact congrArg (fun z => [_, _, z]) b2
  | 3, _ => exact congrArg (fun z => [_, _, _, z]) b3
theorem outN (q : S8) (k : Nat) (hk : k < 8) (x : W) (hx : q.list.getD k 0 = x) : (q.list.take k).flatMap outW ++ (outW x).take 4 = (q.list.take (k + 1)).flatMap outW := by
  have := out_take q k hk x hx
  rw [← bi_append] at this
  exact bi_inj this
theorem outT (q : S8) (k j : Nat) (hk : k < 8) (x : W) (hx : q.list.getD k 0 = x) (hj : j ≤ 4) : (bi ((q.list.take k).flatMap outW ++ (outW x).take j)).length + 1 ≤ 140737488355328 := by
  have h1 := out_len q (k + 1) (by omega)
  rw [← outN q k hk x hx] at h1
  rw [bi_length, List.length_append, List.length_take] at *
  have : (outW x).length = 4 := rfl
  omega
theorem init8 : state8i S8.init = #[.int .i64 1779033703, .int .i64 3144134277, .int .i64 1013904242, .int .i64 2773480762, .int .i64 1359893119, .int .i64 2600822924, .int .i64 528734635, .int .i64 1541459225] := by
  simp [state8i, S8.init, un]
theorem Mine.rb {w : World} {base cd : Nat} {D : Option Addr} {l : List UInt8} (h : Mine w base (.slice D l.length cd) (bi l)) : Rb w D l := by
  obtain ⟨A', c', e, _, hr⟩ := h.reads
  obtain ⟨rfl, _, _⟩ := Value.slice.inj e
  exact hr
theorem wordsA_size (m : Nat → W) : (wordsA m).size = 64 := by simp [wordsA]
theorem wordsA_one (m : Nat → W) : (wordsA m).all (·.oneCell') = true := by simp [wordsA, Value.oneCell']
set_option maxRecDepth 100000 in
set_option maxHeartbeats 4000000 in
theorem refSumX_calls (l : List UInt8) (A : Option Addr) (c : Nat) (w : World) (hr : Rb w A l) (hl : l.length ≤ 140737488352256) (hK : KeysAt w) :
    Calls Tryd.prog 24 #[.slice A l.length c] w fun e w' => ∃ v, e = .returned v ∧ Mine w' w.heap.size v (bi (sha l)) ∧ Fr No w w' := by
  have HR := Aside0.mk hr; have HK := Aside0.mk hK; have HL := Aside0.mk hl
  clear hr hK hl
  go_enter Tryd.func24, Tryd.ntmps24
  obtain ⟨W0, hW0, h1, h2, h3⟩ : ∃ W0, W0 = w.alloc (.cells (state8i S8.init) 79) ∧ St8i W0 w.heap.size S8.init ∧ Fr No w W0 ∧ W0.heap.size = w.heap.size + 1 := ⟨_, rfl, heap_alloc_new w _, (Fr.refl No w).alloc _, by simp⟩
  have e8 : state8i S8.init = #[.int .i64 1779033703, .int .i64 3144134277, .int .i64 1013904242, .int .i64 2773480762, .int .i64 1359893119, .int .i64 2600822924, .int .i64 528734635, .int .i64 1541459225] := init8
  rw [e8] at hW0
  replace hW0 := Aside0.mk hW0
  have HS := Aside0.mk h1; have HF := Aside0.mk h2; have HZ0 := Aside0.mk h3
  clear h1 h2 h3 e8
  go_wp2_with fail
  rw [← hW0.out]
  refine (padded_calls l A c W0 (C_fr HR.out HF.out) HL.out).mono ?_
  rintro e w1 ⟨v, rfl, hm, hf⟩
  obtain ⟨D, cd, rfl, hcd, hrd⟩ := hm.reads
  have HS1 : Aside0 (St8i w1 w.heap.size S8.init) := ⟨hf.heap HS.out id⟩
  have HF1 : Aside0 (Fr No w w1) := ⟨HF.out.then_ hf⟩
  have HPM : Aside0 ((l ++ padOf l.length).length % 64 = 0) := ⟨by rw [List.length_append]; exact pad_mod _⟩
  have HPL : Aside0 ((l ++ padOf l.length).length ≤ 140737488353280) := ⟨by rw [List.length_append, padOf_length]; have := zeros_lt l.length; have := HL.out; omega⟩
  have HSH : Aside0 (sha l = outS (absorb S8.init (l ++ padOf l.length))) := ⟨rfl⟩
  have HRD := Aside0.mk hm
  clear hm hf HS HF hW0 hrd
  generalize l ++ padOf l.length = P at *
  have hpl := HPL.out
  go_wp2_with fail
  go_loopw [5] (fun i wr => ∃ (k : Nat) (s : S8), 64 * k ≤ P.length ∧ i = .int .i64 (64 * k : Nat) ∧ Aside0 (St8i wr w.heap.size s) ∧ Aside0 (absorb s (P.drop (64 * k)) = absorb S8.init P) ∧ Aside0 (Fr No w wr) ∧ Aside0 (Mine wr W0.heap.size (.slice D P.length cd) (bi P))) (fun i _ => P.length - (intOf i).toNat)
  case atStart => exact ⟨0, S8.init, by omega, rfl, HS1, ⟨rfl⟩, HF1, HRD⟩
  case round =>
    clear HS1 HF1 HRD
    obtain ⟨k, s, hk, rfl, HS, HA, HF, HRD⟩ := hrel
    obtain ⟨q, hq⟩ : ∃ q : Nat, 64 * k = q := ⟨_, rfl⟩
    rw [hq] at hk HA ⊢
    by_cases hlt : q < P.length
    · have hle : q + 64 ≤ P.length := by have := HPM.out; omega
      go_wp2_with fail
      refine (refWords_calls P q hle D cd wr HRD.out.rb hpl).mono ?_
      rintro e w2 ⟨cs, rfl, hcs, hf⟩
      have HS2 : Aside0 (St8i w2 w.heap.size s) := ⟨hf.heap HS.out id⟩
      have HCS : Aside0 (cs = wordsA (blockW (P.drop q))) := ⟨hcs⟩
      have HCZ : Aside0 (cs.size = 64) := ⟨by rw [hcs]; exact wordsA_size _⟩
      have HCO : Aside0 (cs.all (·.oneCell') = true) := ⟨by rw [hcs]; exact wordsA_one _⟩
      have HF2 : Aside0 (Fr No w w2) := ⟨HF.out.then_ hf⟩
      have HR2 : Aside0 (Mine w2 W0.heap.size (.slice D P.length cd) (bi P)) := ⟨HRD.out.fr hf (fun _ _ => id)⟩
      have HZA : Aside0 ((w2.alloc (.cells zero64 80)).heap[w2.heap.size]? = some (.cells zero64 80 (0, 0))) := ⟨heap_alloc_new w2 _⟩
      clear hcs hf HS HF HRD
      go_wp2_with (first
        | (refine wpList_store_row rfl _ _ _ rfl w2.heap.size cs rfl rfl 80 zero64 HZA.out (by rw [HCZ.out]; rfl) (by rw [HCZ.out]; rfl) HCO.out ?_
           have k1 : ((w2.alloc (.cells zero64 80)).setRow w2.heap.size cs).heap[w2.heap.size]? = some (.cells cs 80 (0, 0)) := setRow_heap _ _ _ _ _ _ HZA.out
           have k2 : Fr No w2 ((w2.alloc (.cells zero64 80)).setRow w2.heap.size cs) := ((Fr.refl No w2).alloc _).setRow (.inr (Nat.le_refl _)) cs
           unfold zero64 at k1 k2
           generalize World.setRow _ _ _ = W3 at k1 k2 ⊢
           have HT3 := Aside0.mk k1
           have HS3 : Aside0 (W3.heap[w.heap.size]? = some (.cells (state8i s) 79 (0, 0))) := ⟨k2.heap HS2.out id⟩
           have HF3 : Aside0 (Fr No w W3) := ⟨HF2.out.then_ k2⟩
           have HR3 : Aside0 (Mine W3 W0.heap.size (.slice D P.length cd) (bi P)) := ⟨HR2.out.fr k2 (fun _ _ => id)⟩
           clear k1 k2 HS2 HF2 HR2)
        | refine wpList_load_row rfl _ _ rfl w.heap.size rfl 79 (state8i s) _ (.array 8 3) HS3.out rfl rfl rfl ?_
        | refine wpList_load_row rfl _ _ rfl w2.heap.size rfl 80 cs _ (.array 64 3) HT3.out rfl rfl (by rw [HCZ.out]; rfl) ?_)
      obtain rfl := HCS.out
      refine (refBlock_calls s _ W3 (HK.out.fr HF3.out id)).mono ?_
      rintro e w4 ⟨rfl, hf⟩
      have HS4 : Aside0 (w4.heap[w.heap.size]? = some (.cells (state8i s) 79 (0, 0))) := ⟨hf.heap HS3.out id⟩
      have HF4 : Aside0 (Fr No w w4) := ⟨HF3.out.then_ hf⟩
      have HR4 : Aside0 (Mine w4 W0.heap.size (.slice D P.length cd) (bi P)) := ⟨HR3.out.fr hf (fun _ _ => id)⟩
      have HA4 : Aside0 (absorb (comp s (blockW (P.drop q))) (P.drop (q + 64)) = absorb S8.init P) := ⟨by
        rw [← HA.out, absorb_long s (P.drop q) (by rw [List.length_drop]; omega), List.drop_drop]⟩
      clear hf HS3 HF3 HR3 HT3 HCZ HCO HCS HA
      generalize comp s (blockW (P.drop q)) = s2 at *
      have hone : (state8i s2).all (·.oneCell') = true := by simp [state8i, Value.oneCell']
      have HONE := Aside0.mk hone
      have HSZ : Aside0 ((state8i s2).size = 8) := ⟨rfl⟩
      have HSZ1 : Aside0 ((state8i s).size = 8) := ⟨rfl⟩
      have HS5 : Aside0 (St8i (w4.setRow w.heap.size (state8i s2)) w.heap.size s2) := ⟨setRow_heap _ _ _ _ _ _ HS4.out⟩
      have HW5 : Aside0 (Fr No w (w4.setRow w.heap.size (state8i s2))) := ⟨HF4.out.setRow (.inr (Nat.le_refl _)) _⟩
      have HR5 : Aside0 (Mine (w4.setRow w.heap.size (state8i s2)) W0.heap.size (.slice D P.length cd) (bi P)) := ⟨HR4.out.fr' ((Fr.refl (fun k => k = w.heap.size) w4).setRow (.inl rfl) (state8i s2)) (fun k hk hS => by have := HZ0.out; omega)⟩
      clear hone
      go_wp2_with (refine wpList_store_row rfl _ _ _ rfl w.heap.size (state8i s2) rfl rfl 79 (state8i s) HS4.out (by rw [HSZ.out]; rfl) (by rw [HSZ.out, HSZ1.out]) HONE.out ?_)
      refine ⟨⟨k + 1, s2, by omega, by go_num, HS5, ⟨by rw [show 64 * (k + 1) = q + 64 by omega]; exact HA4.out⟩, HW5, HR5⟩, by simp [intOf]; omega⟩
    · obtain rfl : q = P.length := by omega
      have hs : s = absorb S8.init P := by rw [← HA.out, List.drop_length, absorb_short _ _ (by simp)]
      have HSH2 : Aside0 (sha l = s.list.flatMap outW) := ⟨by rw [HSH.out, ← hs]; rfl⟩
      clear hs HA HSH HRD HPM HPL
      obtain ⟨wx, rfl⟩ : ∃ wx, wx = wr := ⟨_, rfl⟩
      go_wp2
      go_loopw [7, 8] (fun v i wy => ∃ k : Nat, k ≤ 8 ∧ i = .int .i64 k ∧ Aside0 (Mine wy wx.heap.size v (bi ((s.list.take k).flatMap outW))) ∧ Aside0 (Fr No wx wy)) (fun _ i _ => 8 - (intOf i).toNat)
      case atStart => exact ⟨0, by omega, rfl, ⟨Mine.nil _ _⟩, ⟨Fr.refl _ _⟩⟩
      case round =>
        obtain ⟨k, hk, rfl, HM, HG⟩ := hrel
        by_cases hlt : k < 8
        · obtain ⟨x, hx⟩ : ∃ x : BitVec 32, s.list.getD k 0 = x := ⟨_, rfl⟩
          have hk1 : (k : Int) < 8 := by omega
          go_wp2
          go_loopw [7, 9] (fun v i wz => ∃ j : Nat, j ≤ 4 ∧ i = .int .i64 ((3 : Int) - (j : Int)) ∧ Aside0 (Mine wz wx.heap.size v (bi ((s.list.take k).flatMap outW ++ (outW x).take j))) ∧ Aside0 (Fr No wx wz)) (fun _ i _ => (intOf i + 1).toNat)
          case atStart => exact ⟨0, by omega, rfl, ⟨by simpa using HM.out⟩, HG⟩
          case round =>
            clear HM HG
            obtain ⟨j, hj, rfl, HM, HG⟩ := hrel
            by_cases hj4 : j < 4
            · obtain ⟨p, hp⟩ : ∃ p : Nat, 3 - j = p := ⟨_, rfl⟩
              have hpi : (3 : Int) - (j : Int) = (p : Int) := by omega
              have hp7 : p ≤ 3 := by omega
              rw [hpi]
              have hcx := St8i.cellAt (HG.out.heap HS.out id) hlt
              rw [hx] at hcx
              have HLL := Aside0.mk (outT s k j hlt x hx hj)
              have HPS : Aside0 (bi ((s.list.take k).flatMap outW ++ (outW x).take j) ++ [un x / 2 ^ (8 * p) % 256] = bi ((s.list.take k).flatMap outW ++ (outW x).take (j + 1))) := ⟨by
                rw [bi_append, List.append_assoc, outB x j p hj4 hp, ← bi_append]⟩
              have HJ := Aside0.mk (And.intro hj4 hp)
              have hx0 := un_nonneg x
              have hx1 := un_lt x
              clear hj4 hp hj hpi hx
              go_wp2_with (at_builtin; refine app_byte rfl _ _ 22 rfl Tryd.underlying22 infoU8 _ (bi ((s.list.take k).flatMap outW ++ (outW x).take j)) (un x / 2 ^ (8 * p) % 256) rfl rfl HM.out HG.out HLL.out ?_; intro v1 w1 hm hf hg)
              rw [HPS.out] at hm
              refine ⟨⟨j + 1, HJ.out.1, ?_, ⟨hm⟩, ⟨hf⟩⟩, ?_⟩
              · have := HJ.out; congr 1; omega
              · simp only [intOf]; omega
            · obtain rfl : j = 4 := by omega
              rw [outN s k hlt x hx] at HM
              go_wp2
              exact ⟨⟨k + 1, by omega, by go_num, HM, HG⟩, by simp [intOf]; omega⟩
        · obtain rfl : k = 8 := by omega
          have HMF : Aside0 (Mine wr w.heap.size u7 (bi (sha l))) := ⟨by rw [HSH2.out]; exact HM.out.lower HF.out.size⟩
          go_wp2
          go_ret
          exact ⟨_, rfl, HMF.out, HF.out.then_ HG.out⟩
theorem refSum_calls (l : List UInt8) (A : Option Addr) (c : Nat) (w : World) (hr : Rb w A l) (hl : l.length ≤ 140737488351232) (hK : KeysAt w) :
    Calls Tryd.prog 24 #[.slice A l.length c] w fun e w' => ∃ v, e = .returned v ∧ Mine w' w.heap.size v (bi (sha l)) ∧ Fr No w w' :=
  refSumX_calls l A c w hr (by omega) hK
end Go.Proofs.YtbaeddppihjgfaaDoor.Sg
