/- The number in four bytes of a frame. -/
import Derived.Test.YtbaeddppihjgfaaDoorMgFrame
import Derived.Test.YtbaeddppihjgfaaDoorMgSha
import Derived.Test.YtbaeddppihjgfaaDoorMgRooms
namespace Go.Proofs.YtbaeddppihjgfaaDoor.Sg
open Go Go.RowKit Go.Proofs.YtbaeddppihjgfaaDoorW.PrintWords
set_option linter.unusedVariables false
attribute [local go_sem] i_or
/-- The number in four bytes from a place on. -/
def numV (l : List UInt8) (k : Nat) : Nat := (l.getD k 0).toNat + 256 * (l.getD (k + 1) 0).toNat + 65536 * (l.getD (k + 2) 0).toNat + 16777216 * (l.getD (k + 3) 0).toNat
def numI (l : List UInt8) (k : Nat) : Int := if k + 4 ≤ l.length then (numV l k : Int) else -1
theorem numV_at (l : List UInt8) (k : Nat) (h : k + 4 ≤ l.length) : (numV l k : Int) = un (b2w (l[k]'(by omega))) + 256 * un (b2w (l[k + 1]'(by omega))) + 65536 * un (b2w (l[k + 2]'(by omega))) + 16777216 * un (b2w (l[k + 3]'(by omega))) := by
  unfold numV
  simp only [List.getD_eq_getElem?_getD, List.getElem?_eq_getElem (show k < l.length by omega), List.getElem?_eq_getElem (show k + 1 < l.length by omega), List.getElem?_eq_getElem (show k + 2 < l.length by omega), List.getElem?_eq_getElem (show k + 3 < l.length by omega), Option.getD_some, un_b2w]
  omega
theorem numV_lt (l : List UInt8) (k : Nat) : numV l k < 4294967296 := by
  unfold numV
  have h0 := (l.getD k 0).toNat_lt; have h1 := (l.getD (k + 1) 0).toNat_lt; have h2 := (l.getD (k + 2) 0).toNat_lt; have h3 := (l.getD (k + 3) 0).toNat_lt
  omega
end Go.Proofs.YtbaeddppihjgfaaDoor.Sg
namespace Go.Proofs.YtbaeddppihjgfaaDoor.Sg
open Go Go.RowKit Go.Proofs.YtbaeddppihjgfaaDoorW.PrintWords
set_option linter.unusedVariables false
theorem shl8 (b : UInt8) : un (b2w b) * (256 : Int) = un (b2w b <<< (8 : Nat)) := by
  rw [← u_shl' (b2w b) 8, un_b2w]; have := b.toNat_lt; omega
theorem shl16 (b : UInt8) : un (b2w b) * (65536 : Int) = un (b2w b <<< (16 : Nat)) := by
  rw [← u_shl' (b2w b) 16, un_b2w]; have := b.toNat_lt; omega
theorem shl24 (b : UInt8) : un (b2w b) * (16777216 : Int) = un (b2w b <<< (24 : Nat)) := by
  rw [← u_shl' (b2w b) 24, un_b2w]; have := b.toNat_lt; omega
theorem num_or (b0 b1 b2 b3 : UInt8) : un (b2w b0 ||| b2w b1 <<< 8 ||| b2w b2 <<< 16 ||| b2w b3 <<< 24) = un (b2w b0) + 256 * un (b2w b1) + 65536 * un (b2w b2) + 16777216 * un (b2w b3) := by
  have h := un_be4 b3 b2 b1 b0
  unfold be4 at h
  have e : b2w b0 ||| b2w b1 <<< 8 ||| b2w b2 <<< 16 ||| b2w b3 <<< 24 = b2w b3 <<< 24 ||| b2w b2 <<< 16 ||| b2w b1 <<< 8 ||| b2w b0 := by
    rw [BitVec.or_comm (b2w b0), BitVec.or_comm (b2w b1 <<< 8 ||| b2w b0), BitVec.or_comm (b2w b2 <<< 16 ||| (b2w b1 <<< 8 ||| b2w b0)), BitVec.or_assoc, BitVec.or_assoc]
  rw [e, h, un_b2w, un_b2w, un_b2w, un_b2w]
  omega
theorem num_bits (b0 b1 b2 b3 : UInt8) : bits .or .i64 (bits .or .i64 (bits .or .i64 (un (b2w b0)) (un (b2w b1) * 256)) (un (b2w b2) * 65536)) (un (b2w b3) * 16777216) = un (b2w b0) + 256 * un (b2w b1) + 65536 * un (b2w b2) + 16777216 * un (b2w b3) := by
  rw [shl8, shl16, shl24, i_or, i_or, i_or, num_or]
def BoxS (w : World) (g : Nat) (v : Value) : Prop := w.heap[g]? = some (.cells #[v] 22 (0, 0))
def IntAt (w : World) (g : Nat) (k : Int) : Prop := w.heap[g]? = some (.cells #[.int .i64 k] 3 (0, 0))
theorem BoxS.cell {w : World} {g : Nat} {v : Value} (h : BoxS w g v) : w.cell? ⟨g, 0, none⟩ = some v := cell_of_row _ g 0 _ _ _ h
theorem IntAt.cell {w : World} {g : Nat} {k : Int} (h : IntAt w g k) : w.cell? ⟨g, 0, none⟩ = some (.int .i64 k) := cell_of_row _ g 0 _ _ _ h
theorem IntAt.free {w : World} {g : Nat} {k : Int} (h : IntAt w g k) (j : Nat) : w.frozen? ⟨g, j, none⟩ = false := by
  have hb : w.heap[g]? = some (.cells #[.int .i64 k] 3 (0, 0)) := h
  simp [World.frozen?, hb]
theorem IntAt.set {w : World} {g : Nat} {k : Int} (h : IntAt w g k) (n : Int) : IntAt (w.setCell ⟨g, 0, none⟩ (.int .i64 n)) g n := blk_put h 0 _ rfl
theorem box_ne {w : World} {f g : Nat} {v : Value} {k : Int} (h : BoxS w f v) (h2 : IntAt w g k) : f ≠ g := fun e => by
  subst e
  have h1 : w.heap[f]? = _ := h
  have h3 : w.heap[f]? = _ := h2
  rw [h1] at h3
  injection h3 with h3
  injection h3 with _ h4 _
  exact absurd h4 (by decide)
set_option maxRecDepth 100000 in
set_option maxHeartbeats 4000000 in
theorem num_calls (l : List UInt8) (k : Nat) (A : Option Addr) (c : Nat) (fb ab : Nat) (w : World) (hs : BoxS w fb (.slice A l.length c)) (hi : IntAt w ab (k : Int)) (hc : l.length ≤ c) (hr : ∀ w', Fr (fun b => b = ab) w w' → Rb w' A l)
    (hl : l.length ≤ 67108864) (hk : k ≤ l.length) :
    Calls Tryd.prog 70 #[.pointer (some ⟨fb, 0, none⟩), .pointer (some ⟨ab, 0, none⟩)] w fun e w' => e = .returned (.int .i64 (numI l k)) ∧ IntAt w' ab (if k + 4 ≤ l.length then (k : Int) + 4 else (k : Int)) ∧ Fr (fun b => b = ab) w w' := by
  have hne := box_ne hs hi
  have cs := hs.cell
  have ci := hi.cell
  have cf := hi.free
  by_cases h4 : k + 4 ≤ l.length
  · have HS := Aside0.mk (hi.set ((k : Int) + 4))
    have hw1 : Fr (fun b => b = ab) w (w.setCell ⟨ab, 0, none⟩ (.int .i64 ((k : Int) + 4))) := (Fr.refl (fun b => b = ab) w).setCell (.inl rfl) _
    have hrb := hr _ hw1
    have HF := Aside0.mk hw1
    have hrd := Rb_drop hrb k (by omega) hc
    rw [if_neg (by omega)] at hrd
    obtain ⟨ad, hA, c0⟩ := C_byte hrd 0 (by rw [List.length_drop]; omega)
    obtain ⟨ad1, hA1, c1⟩ := C_byte hrd 1 (by rw [List.length_drop]; omega)
    obtain ⟨ad2, hA2, c2⟩ := C_byte hrd 2 (by rw [List.length_drop]; omega)
    obtain ⟨ad3, hA3, c3⟩ := C_byte hrd 3 (by rw [List.length_drop]; omega)
    rw [hA] at hA1 hA2 hA3
    obtain rfl := Option.some.inj hA1
    obtain rfl := Option.some.inj hA2
    obtain rfl := Option.some.inj hA3
    simp only [List.getElem_drop, Nat.add_zero] at c0 c1 c2 c3
    have HN : Aside0 (numI l k = _) := ⟨(if_pos h4).trans (numV_at l k h4)⟩
    have HI : Aside0 ((if k + 4 ≤ l.length then (k : Int) + 4 else (k : Int)) = (k : Int) + 4) := ⟨if_pos h4⟩
    generalize l[k]'(by omega) = b0 at *
    generalize l[k + 1]'(by omega) = b1 at *
    generalize l[k + 2]'(by omega) = b2 at *
    generalize l[k + 3]'(by omega) = b3 at *
    have h4i : (k : Int) + 4 ≤ (l.length : Int) := by omega
    have hn4 : ¬ ((l.length : Int) - (k : Int) < 4) := by omega
    obtain ⟨ad0, rfl⟩ : ∃ ad0, A = some ad0 := by
      cases A with
      | none => simp at hA
      | some a => exact ⟨a, rfl⟩
    have hca : ad0.add k = ad := by simpa using hA
    have HCA := Aside0.mk hca
    have hck : ¬ c = k := by omega
    clear hr hrb hrd hA hca hw1 hs hi
    go_enter Tryd.func70, Tryd.ntmps70
    go_wp2_with fail
    rw [HCA.out]
    have y0 := un_nonneg (b2w b0); have y1 := un_nonneg (b2w b1); have y2 := un_nonneg (b2w b2); have y3 := un_nonneg (b2w b3)
    have z0 : un (b2w b0) < 256 := by rw [un_b2w]; have := b0.toNat_lt; omega
    have z1 : un (b2w b1) < 256 := by rw [un_b2w]; have := b1.toNat_lt; omega
    have z2 : un (b2w b2) < 256 := by rw [un_b2w]; have := b2.toNat_lt; omega
    have z3 : un (b2w b3) < 256 := by rw [un_b2w]; have := b3.toNat_lt; omega
    have d0 : (w.setCell ⟨ab, 0, none⟩ (.int .i64 ((k : Int) + 4))).cell? ad = some (.int .u8 (un (b2w b0))) := by have h := c0; rwa [show ad.add 0 = ad from by unfold Addr.add; cases ad; simp] at h
    have d1 := c1; have d2 := c2; have d3 := c3
    simp [go_sem] at d1 d2 d3
    have i0 : 0 < l.length - k := by omega
    have i1 : 1 < l.length - k := by omega
    have i2 : 2 < l.length - k := by omega
    have i3 : 3 < l.length - k := by omega
    go_region
    go_wp2
    go_ret
    exact ⟨by rw [HN.out]; exact congrArg (fun z => Ending.returned (.int .i64 z)) (num_bits b0 b1 b2 b3), HS.out, HF.out.drew⟩
  · have HN : Aside0 (numI l k = -1) := ⟨if_neg h4⟩
    have HI := Aside0.mk hi
    have hlt : (l.length : Int) - (k : Int) < 4 := by omega
    go_enter Tryd.func70, Tryd.ntmps70
    go_wp2_with fail
    go_ret
    exact ⟨by rw [HN.out]; rfl, HI.out, Fr.refl _ _⟩
end Go.Proofs.YtbaeddppihjgfaaDoor.Sg
namespace Go.Proofs.YtbaeddppihjgfaaDoor.Sg
open Go Go.RowKit Go.Proofs.YtbaeddppihjgfaaDoorW.PrintWords
set_option linter.unusedVariables false
def partAt (l : List UInt8) (k : Nat) : List UInt8 := (l.drop (k + 4)).take (numV l k)
def partsGo (l : List UInt8) : Nat → Nat → List (List UInt8) → Option (Nat × List (List UInt8))
  | 0, k, out => some (k, out)
  | n + 1, k, out => if k + 4 + numV l k ≤ l.length then partsGo l n (k + 4 + numV l k) (out ++ [partAt l k]) else none
def partsX (l : List UInt8) : Option (List (List UInt8)) :=
  if 4 ≤ l.length ∧ numV l 0 ≤ 65536 then
    match partsGo l (numV l 0) 4 [] with
    | some (k, out) => if k = l.length then some out else none
    | none => none
  else none
def partsL (l : List UInt8) : List (List UInt8) := if 67108864 < l.length then [] else (partsX l).getD []
def partsE (l : List UInt8) : Int := if 67108864 < l.length then 2 else match partsX l with
  | some _ => 0
  | none => 30
theorem parts_long {l : List UInt8} (h : 67108864 < l.length) : partsL l = [] ∧ partsE l = 2 := by unfold partsL partsE; rw [if_pos h, if_pos h]; exact ⟨rfl, rfl⟩
theorem parts_bad {l : List UInt8} (h : ¬ 67108864 < l.length) (hx : partsX l = none) : partsL l = [] ∧ partsE l = 30 := by unfold partsL partsE; rw [if_neg h, if_neg h, hx]; exact ⟨rfl, rfl⟩
theorem parts_good {l : List UInt8} {out : List (List UInt8)} (h : ¬ 67108864 < l.length) (hx : partsX l = some out) : partsL l = out ∧ partsE l = 0 := by unfold partsL partsE; rw [if_neg h, if_neg h, hx]; exact ⟨rfl, rfl⟩
theorem partsX_head {l : List UInt8} (h : ¬ (4 ≤ l.length ∧ numV l 0 ≤ 65536)) : partsX l = none := if_neg h
theorem partsX_go {l : List UInt8} (h : 4 ≤ l.length ∧ numV l 0 ≤ 65536) (hg : partsGo l (numV l 0) 4 [] = none) : partsX l = none := by unfold partsX; rw [if_pos h, hg]
theorem partsX_end {l : List UInt8} {k : Nat} {out : List (List UInt8)} (h : 4 ≤ l.length ∧ numV l 0 ≤ 65536) (hg : partsGo l (numV l 0) 4 [] = some (k, out)) : partsX l = if k = l.length then some out else none := by unfold partsX; rw [if_pos h, hg]
theorem partsGo_step {l : List UInt8} {n k : Nat} {out : List (List UInt8)} (h : k + 4 + numV l k ≤ l.length) : partsGo l (n + 1) k out = partsGo l n (k + 4 + numV l k) (out ++ [partAt l k]) := if_pos h
theorem partsGo_stop {l : List UInt8} {n k : Nat} {out : List (List UInt8)} (h : ¬ k + 4 + numV l k ≤ l.length) : partsGo l (n + 1) k out = none := if_neg h
theorem partAt_length {l : List UInt8} {k : Nat} (h : k + 4 + numV l k ≤ l.length) : (partAt l k).length = numV l k := by unfold partAt; rw [List.length_take, List.length_drop]; omega
theorem BoxS.fr {S : Nat → Prop} {w w1 : World} {g : Nat} {v : Value} (h : BoxS w g v) (hf : Fr S w w1) (hn : ¬ S g) : BoxS w1 g v := hf.heap h hn
theorem IntAt.fr {S : Nat → Prop} {w w1 : World} {g : Nat} {k : Int} (h : IntAt w g k) (hf : Fr S w w1) (hn : ¬ S g) : IntAt w1 g k := hf.heap h hn
theorem IntAt.lt {w : World} {g : Nat} {k : Int} (h : IntAt w g k) : g < w.heap.size := (Array.getElem?_eq_some_iff.1 h).1
set_option maxRecDepth 100000 in
set_option maxHeartbeats 4000000 in
theorem parts_calls (l : List UInt8) (A : Option Addr) (c : Nat) (w : World) (hr : Rb w A l) (hc : l.length ≤ c) (hl : l.length ≤ 140737488351232) :
    Calls Tryd.prog 45 #[.slice A l.length c] w fun e w' => ∃ v, e = .returned (.tuple #[v, .int .i64 (partsE l)]) ∧ Kd.R KB 22 w' w.heap.size (fun b => w.heap.size ≤ b) v ((partsL l).map bi) ∧ Fr No w w' := by
  have HR := Aside0.mk hr
  clear hr
  obtain ⟨W0, hW0, hb0, hf0⟩ : ∃ W0, W0 = w.alloc (.cells #[.slice A l.length c] 22) ∧ BoxS W0 w.heap.size (.slice A l.length c) ∧ Fr No w W0 := ⟨_, rfl, heap_alloc_new w _, (Fr.refl No w).alloc _⟩
  have hz0 : W0.heap.size = w.heap.size + 1 := by rw [hW0]; simp
  have HB0 := Aside0.mk hb0; have HF0 := Aside0.mk hf0; have HW0 := Aside0.mk hW0; have HZ0 := Aside0.mk hz0
  have c0 := hb0.cell
  rw [hW0] at c0
  clear hb0 hf0 hz0 hW0
  go_enter Tryd.func45, Tryd.ntmps45
  by_cases hlong : 67108864 < l.length
  · have HNO := Aside0.mk (parts_long hlong)
    go_wp2_with fail
    go_ret2
    rw [HNO.out.1, HNO.out.2]
    exact ⟨.slice none 0 0, rfl, Kd.R_nil _ _ _ _ _, (Fr.refl No w).alloc _⟩
  · obtain ⟨W1, hW1, hi1, hf1⟩ : ∃ W1, W1 = W0.alloc (.cells #[.int .i64 0] 3) ∧ IntAt W1 W0.heap.size 0 ∧ Fr No W0 W1 := ⟨_, rfl, heap_alloc_new W0 _, (Fr.refl No W0).alloc _⟩
    have HI1 : Aside0 (IntAt W1 (w.heap.size + 1) ((0 : Nat) : Int)) := ⟨by rw [← HZ0.out]; exact hi1⟩
    have HB1 : Aside0 (BoxS W1 w.heap.size (.slice A l.length c)) := ⟨HB0.out.fr hf1 id⟩
    have HF1 : Aside0 (Fr No w W1) := ⟨HF0.out.then_ hf1⟩
    rw [HW0.out] at hW1
    have HW1 := Aside0.mk hW1
    clear hi1 hf1 hW1 HB0 HF0 HW0 HZ0
    go_wp2_with fail
    rw [← HW1.out]
    clear c0 HW1
    refine (num_calls l 0 A c w.heap.size (w.heap.size + 1) W1 HB1.out HI1.out hc (fun w' hf => C_fr HR.out (HF1.out.trans hf (fun b hb => .inr (by omega)))) (by omega) (by omega)).mono ?_
    rintro e w2 ⟨rfl, hi, hf⟩
    have HB2 : Aside0 (BoxS w2 w.heap.size (.slice A l.length c)) := ⟨HB1.out.fr hf (by omega)⟩
    have HF2 : Aside0 (Fr No w w2) := ⟨HF1.out.trans hf (fun b hb => .inr (by omega))⟩
    clear HB1 HF1 HI1 hf
    by_cases h4 : 4 ≤ l.length
    · have hn0 : numI l 0 = (numV l 0 : Int) := if_pos (by omega)
      rw [if_pos (by omega)] at hi
      rw [hn0]
      clear hn0
      have HI2 : Aside0 (IntAt w2 (w.heap.size + 1) ((4 : Nat) : Int)) := ⟨hi⟩
      clear hi
      obtain ⟨n0, hn0⟩ : ∃ n0 : Nat, numV l 0 = n0 := ⟨_, rfl⟩
      have HN0 := Aside0.mk hn0
      rw [hn0]
      clear hn0
      by_cases h6 : n0 ≤ 65536
      · have HX : Aside0 (partsGo l (n0 - 0) 4 [] = partsGo l (numV l 0) 4 []) := ⟨by rw [HN0.out]; rfl⟩
        have HHD : Aside0 (4 ≤ l.length ∧ numV l 0 ≤ 65536) := ⟨⟨h4, by rw [HN0.out]; exact h6⟩⟩
        have hw2 : w.heap.size + 2 ≤ w2.heap.size := by have := HI2.out.lt; omega
        have HZ2 := Aside0.mk hw2
        clear hw2
        go_wp2_with fail
        go_loopw [7, 22] (fun v i wr => ∃ (j k : Nat) (out : List (List UInt8)), j ≤ n0 ∧ i = .int .i64 j ∧ k ≤ l.length ∧ Aside0 (partsGo l (n0 - j) k out = partsGo l (numV l 0) 4 []) ∧ Aside0 (out.length = j) ∧ Aside0 (Kd.R KB 22 wr w.heap.size (fun b => w.heap.size + 2 ≤ b) v (out.map bi)) ∧ Aside0 (IntAt wr (w.heap.size + 1) (k : Int)) ∧ Aside0 (BoxS wr w.heap.size (.slice A l.length c)) ∧ Aside0 (Fr No w wr)) (fun _ i _ => n0 - (intOf i).toNat)
        case atStart => exact ⟨0, 4, [], by omega, rfl, h4, HX, ⟨rfl⟩, ⟨Kd.R_nil _ _ _ _ _⟩, HI2, HB2, HF2⟩
        case round =>
          clear HX HI2 HB2 HF2
          obtain ⟨j, k, out, hj, rfl, hk, HX, HOL, HO, HI, HB, HF⟩ := hrel
          have HZ : Aside0 (w.heap.size + 2 ≤ wr.heap.size) := ⟨by have := HI.out.lt; omega⟩
          by_cases hlt : j < n0
          · go_wp2_with fail
            refine (num_calls l k A c w.heap.size (w.heap.size + 1) wr HB.out HI.out hc (fun w' hf => C_fr HR.out (HF.out.trans hf (fun b hb => .inr (by omega)))) (by omega) hk).mono ?_
            rintro e w3 ⟨rfl, hi, hf⟩
            have HB3 : Aside0 (BoxS w3 w.heap.size (.slice A l.length c)) := ⟨HB.out.fr hf (by omega)⟩
            have HF3 : Aside0 (Fr No w w3) := ⟨HF.out.trans hf (fun b hb => .inr (by omega))⟩
            have HO3 : Aside0 (Kd.R KB 22 w3 w.heap.size (fun b => w.heap.size + 2 ≤ b) u7 (out.map bi)) := ⟨Kd.R_kept HO.out hf.kept (fun b hb hS => by omega)⟩
            have HZ3 : Aside0 (w.heap.size + 2 ≤ w3.heap.size) := ⟨Nat.le_trans HZ.out hf.size⟩
            clear HB HF HO HI HZ hf
            obtain ⟨m, hmv⟩ : ∃ m : Nat, numV l k = m := ⟨_, rfl⟩
            have HMV := Aside0.mk hmv
            have hne : n0 - j = (n0 - (j + 1)) + 1 := by omega
            rw [hne] at HX
            clear hne
            by_cases hk4 : k + 4 ≤ l.length
            · have hn0 : numI l k = (m : Int) := by rw [← hmv]; exact if_pos hk4
              rw [if_pos hk4] at hi
              rw [hn0]
              clear hn0
              obtain ⟨q, hq⟩ : ∃ q : Nat, k + 4 = q := ⟨_, rfl⟩
              have hqi : (k : Int) + 4 = (q : Int) := by omega
              rw [hqi] at hi
              have HI3 := Aside0.mk hi
              have cb := HB3.out.cell
              have ci := HI3.out.cell
              have HQ := Aside0.mk hq
              clear hi hmv hqi
              by_cases hm : q + m ≤ l.length
              · rw [partsGo_step (by rw [HQ.out, HMV.out]; exact hm)] at HX
                rw [HQ.out, HMV.out] at HX
                have hml : m ≤ 4294967296 := by have := numV_lt l k; have := HMV.out; omega
                have HPL : Aside0 ((partAt l k).length = m) := ⟨by rw [partAt_length (by rw [HQ.out, HMV.out]; exact hm)]; exact HMV.out⟩
                have HPA : Aside0 ((l.drop q).take m = partAt l k) := ⟨by unfold partAt; rw [HMV.out, HQ.out]⟩
                go_upto_region 14 with fail
                go_cut [7] (fun v7 wx => Aside0 (Kd.R KB 22 wx w.heap.size (fun b => w.heap.size + 2 ≤ b) v7 ((out ++ [partAt l k]).map bi)) ∧ Aside0 (IntAt wx (w.heap.size + 1) (q : Int)) ∧ Aside0 (BoxS wx w.heap.size (.slice A l.length c)) ∧ Aside0 (Fr No w wx))
                case first =>
                  have HNIL : Aside0 (Mine w3 w3.heap.size (.slice none 0 0) []) := ⟨Mine.nil _ _⟩
                  have HFR : Aside0 (Fr No w3 w3) := ⟨Fr.refl _ _⟩
                  have HRB : Aside0 (Kd.C (Kd.int .u8) w3 (if c = q then A else A.map (·.add q)) (q + m - q) (bi (partAt l k))) := ⟨by
                    rw [Nat.add_sub_cancel_left]
                    have h1 := Rb_take (Rb_drop (C_fr HR.out HF3.out) q (by omega) hc) m (by rw [List.length_drop]; omega)
                    rw [HPA.out] at h1
                    unfold Rb at h1
                    rwa [HPL.out] at h1⟩
                  have HLM : Aside0 (([] : List Int).length + (q + m - q) ≤ 140737488355328) := ⟨by simp only [List.length_nil]; omega⟩
                  have HOK : Aside0 (∀ b, w3.heap.size ≤ b → w.heap.size + 2 ≤ b ∧ some b ≠ u7.ownBlock) := ⟨fun b hb => ⟨by have := HZ3.out; omega, fun he => by
                    obtain ⟨_, inner, ho, _⟩ := HO3.out
                    have := own_lt ho b he.symm
                    omega⟩⟩
                  have HLN : Aside0 (((out.map bi).length + 1) * 24 ≤ 140737488355328) := ⟨by rw [List.length_map, HOL.out]; omega⟩
                  by_cases hcq : c = q
                  · rw [if_pos hcq] at HRB
                    subst hcq
                    go_wp2_with (first
                      | (at_builtin; refine app_row (w0 := w3) rfl (.const (.slice none 0 0)) (.tmp 42) 22 rfl Tryd.underlying22 infoU8 (.slice none 0 0) [] (bi (partAt l k)) _ (c + m - c) _ rfl rfl HNIL.out HRB.out HFR.out HLM.out ?_
                         intro v5 w5 hm5 hf5 hg5
                         rw [List.nil_append] at hm5
                         have hm5a := hm5
                         obtain ⟨A5, c5, rfl, _, _⟩ := hm5a.reads
                         have HP5 : Aside0 (KB.M w5 w.heap.size (fun b => w3.heap.size ≤ b) (bi (partAt l k)) [.slice A5 (partAt l k).length c5]) := ⟨⟨_, rfl, Kd.R_mono (Kd.R_lower (Kd.R_bound hm5) (by have := HZ3.out; omega)) (fun b hb => hb.2.1)⟩⟩
                         have HO5 : Aside0 (Kd.R KB 22 w5 w.heap.size (fun b => w.heap.size + 2 ≤ b) u7 (out.map bi)) := ⟨Kd.R_kept HO3.out hf5.kept (fun b hb hS => hS)⟩
                         have HZ5 : Aside0 (w3.heap.size ≤ w5.heap.size) := ⟨hf5.size⟩
                         have HB5 : Aside0 (BoxS w5 w.heap.size (.slice A l.length c)) := ⟨HB3.out.fr hf5 id⟩
                         have HI5 : Aside0 (IntAt w5 (w.heap.size + 1) (c : Int)) := ⟨HI3.out.fr hf5 id⟩
                         have HF5 : Aside0 (Fr No w w5) := ⟨HF3.out.then_ hf5⟩
                         clear hm5 hf5 hg5)
                      | (at_builtin; refine Kd.R_append KB (w0 := w5) w.heap.size rfl (.tmp 36) (.tmp 44) 34 22 (.slice none 0 0) 24 rfl Tryd.underlying34 infoRow rfl (by decide) (by decide) u7 (out.map bi) (bi (partAt l k)) [.slice A5 (partAt l k).length c5] (fun b => w.heap.size + 2 ≤ b) (fun b => w3.heap.size ≤ b) rfl rfl HP5.out HOK.out (fun b hb => by have := HZ3.out; have := HZ5.out; omega) HO5.out (Below.refl _ _) (by have := HZ3.out; have := HZ5.out; omega) HLN.out ?_
                         intro v6 w6 hr6 hb6 hg6 hat6))
                    go_meet
                    have hgr : Fr (fun b => u7.ownBlock = some b) w5 w6 := (Fr.refl (fun b => u7.ownBlock = some b) w5).grown hg6 (fun b hb => .inl hb)
                    exact ⟨⟨by rw [List.map_append]; exact hr6⟩, ⟨HI5.out.fr hgr (fun h => by have := HO5.out.1 _ h; omega)⟩, ⟨HB5.out.fr hgr (fun h => by have := HO5.out.1 _ h; omega)⟩, ⟨HF5.out.trans hgr (fun b hb => .inr (by have := HO5.out.1 _ hb; omega))⟩⟩
                  · rw [if_neg hcq] at HRB
                    go_wp2_with (first
                      | (at_builtin; refine app_row (w0 := w3) rfl (.const (.slice none 0 0)) (.tmp 42) 22 rfl Tryd.underlying22 infoU8 (.slice none 0 0) [] (bi (partAt l k)) _ (q + m - q) _ rfl rfl HNIL.out HRB.out HFR.out HLM.out ?_
                         intro v5 w5 hm5 hf5 hg5
                         rw [List.nil_append] at hm5
                         have hm5a := hm5
                         obtain ⟨A5, c5, rfl, _, _⟩ := hm5a.reads
                         have HP5 : Aside0 (KB.M w5 w.heap.size (fun b => w3.heap.size ≤ b) (bi (partAt l k)) [.slice A5 (partAt l k).length c5]) := ⟨⟨_, rfl, Kd.R_mono (Kd.R_lower (Kd.R_bound hm5) (by have := HZ3.out; omega)) (fun b hb => hb.2.1)⟩⟩
                         have HO5 : Aside0 (Kd.R KB 22 w5 w.heap.size (fun b => w.heap.size + 2 ≤ b) u7 (out.map bi)) := ⟨Kd.R_kept HO3.out hf5.kept (fun b hb hS => hS)⟩
                         have HZ5 : Aside0 (w3.heap.size ≤ w5.heap.size) := ⟨hf5.size⟩
                         have HB5 : Aside0 (BoxS w5 w.heap.size (.slice A l.length c)) := ⟨HB3.out.fr hf5 id⟩
                         have HI5 : Aside0 (IntAt w5 (w.heap.size + 1) (q : Int)) := ⟨HI3.out.fr hf5 id⟩
                         have HF5 : Aside0 (Fr No w w5) := ⟨HF3.out.then_ hf5⟩
                         clear hm5 hf5 hg5)
                      | (at_builtin; refine Kd.R_append KB (w0 := w5) w.heap.size rfl (.tmp 36) (.tmp 44) 34 22 (.slice none 0 0) 24 rfl Tryd.underlying34 infoRow rfl (by decide) (by decide) u7 (out.map bi) (bi (partAt l k)) [.slice A5 (partAt l k).length c5] (fun b => w.heap.size + 2 ≤ b) (fun b => w3.heap.size ≤ b) rfl rfl HP5.out HOK.out (fun b hb => by have := HZ3.out; have := HZ5.out; omega) HO5.out (Below.refl _ _) (by have := HZ3.out; have := HZ5.out; omega) HLN.out ?_
                         intro v6 w6 hr6 hb6 hg6 hat6))
                    go_meet
                    have hgr : Fr (fun b => u7.ownBlock = some b) w5 w6 := (Fr.refl (fun b => u7.ownBlock = some b) w5).grown hg6 (fun b hb => .inl hb)
                    exact ⟨⟨by rw [List.map_append]; exact hr6⟩, ⟨HI5.out.fr hgr (fun h => by have := HO5.out.1 _ h; omega)⟩, ⟨HB5.out.fr hgr (fun h => by have := HO5.out.1 _ h; omega)⟩, ⟨HF5.out.trans hgr (fun b hb => .inr (by have := HO5.out.1 _ hb; omega))⟩⟩
                case rest =>
                  obtain ⟨HO6, HI6, HB6, HF6⟩ := hcut
                  have ci6 := HI6.out.cell
                  have cf6 := HI6.out.free
                  have HI7 := Aside0.mk (HI6.out.set ((q : Int) + (m : Int)))
                  have hqm : q + m ≤ 67108864 := by omega
                  clear cb ci
                  go_wp2_with fail
                  refine ⟨⟨j + 1, q + m, out ++ [partAt l k], by omega, by go_num, hm, HX, ⟨by rw [List.length_append, HOL.out]; rfl⟩, ⟨Kd.R_kept HO6.out ((Fr.refl (fun b => b = w.heap.size + 1) wc).setCell (.inl rfl) _).kept (fun b hb hS => by omega)⟩, ⟨by push_cast; exact HI7.out⟩, ⟨HB6.out.fr ((Fr.refl (fun b => b = w.heap.size + 1) wc).setCell (.inl rfl) _) (by omega)⟩, ⟨HF6.out.setCell (.inr (by simp only []; omega)) _⟩⟩, by simp [intOf]; omega⟩
              · have HNO := Aside0.mk (parts_bad hlong (partsX_go HHD.out (by rw [← HX.out]; exact partsGo_stop (by rw [HQ.out, HMV.out]; exact hm))))
                go_wp2_with fail
                go_ret2
                rw [HNO.out.1, HNO.out.2]
                exact ⟨.slice none 0 0, rfl, Kd.R_nil _ _ _ _ _, HF3.out⟩
            · have hn0 : numI l k = -1 := if_neg hk4
              have HNO := Aside0.mk (parts_bad hlong (partsX_go HHD.out (by rw [← HX.out]; exact partsGo_stop (by omega))))
              rw [hn0]
              clear hn0
              go_wp2_with fail
              go_ret2
              rw [HNO.out.1, HNO.out.2]
              exact ⟨.slice none 0 0, rfl, Kd.R_nil _ _ _ _ _, HF3.out⟩
          · obtain rfl : j = n0 := by omega
            rw [Nat.sub_self] at HX
            have HXE : Aside0 (partsX l = if k = l.length then some out else none) := ⟨partsX_end HHD.out HX.out.symm⟩
            have cb := HB.out.cell
            have ci := HI.out.cell
            clear HX
            by_cases hke : k = l.length
            · have HNO := Aside0.mk (parts_good (out := out) hlong (by rw [HXE.out, if_pos hke]))
              have hbe : ((k : Int) == (l.length : Int)) = true := by rw [hke]; exact beq_self_eq_true _
              have HRE : Aside0 (Kd.R KB 22 wr w.heap.size (fun b => w.heap.size ≤ b) u7 (out.map bi)) := ⟨Kd.R_mono HO.out (fun b hb => by omega)⟩
              clear hke HXE
              go_wp2_with fail
              go_ret2
              rw [HNO.out.1, HNO.out.2]
              exact ⟨_, rfl, HRE.out, HF.out⟩
            · have HNO := Aside0.mk (parts_bad hlong (by rw [HXE.out, if_neg hke]))
              have hbe : ((k : Int) == (l.length : Int)) = false := beq_eq_false_iff_ne.2 (by omega)
              go_wp2_with fail
              go_ret2
              rw [HNO.out.1, HNO.out.2]
              exact ⟨.slice none 0 0, rfl, Kd.R_nil _ _ _ _ _, HF.out⟩
      · have HNO := Aside0.mk (parts_bad hlong (partsX_head (l := l) (by rw [HN0.out]; omega)))
        go_wp2_with fail
        go_ret2
        rw [HNO.out.1, HNO.out.2]
        exact ⟨.slice none 0 0, rfl, Kd.R_nil _ _ _ _ _, HF2.out⟩
    · have hn0 : numI l 0 = -1 := if_neg (by omega)
      have HNO := Aside0.mk (parts_bad hlong (partsX_head (l := l) (by omega)))
      rw [hn0]
      clear hn0
      go_wp2_with fail
      go_ret2
      rw [HNO.out.1, HNO.out.2]
      exact ⟨.slice none 0 0, rfl, Kd.R_nil _ _ _ _ _, HF2.out⟩
end Go.Proofs.YtbaeddppihjgfaaDoor.Sg
namespace Go.Proofs.YtbaeddppihjgfaaDoor.Sg
open Go Go.RowKit
set_option linter.unusedVariables false
theorem getD_drop (l : List UInt8) (k i : Nat) : l.getD (k + i) 0 = (l.drop k).getD i 0 := by
  simp [List.getD_eq_getElem?_getD, List.getElem?_drop]
theorem numV_drop (l : List UInt8) (k n : Nat) (r : List UInt8) (hn : n < 4294967296) (h : l.drop k = le4 n ++ r) : numV l k = n := by
  have e : ∀ i, l.getD (k + i) 0 = (le4 n ++ r).getD i 0 := fun i => by rw [getD_drop, h]
  have e0 := e 0; have e1 := e 1; have e2 := e 2; have e3 := e 3
  unfold numV
  rw [Nat.add_zero] at e0
  rw [e0, e1, e2, e3]
  simp only [le4, List.cons_append, List.nil_append, List.getD_cons_zero, List.getD_cons_succ, UInt8.toNat_ofNat']
  omega
theorem le4_numV (l : List UInt8) (k : Nat) (h : k + 4 ≤ l.length) : (l.drop k).take 4 = le4 (numV l k) := by
  have hd : l.drop k = (l.getD k 0) :: (l.getD (k + 1) 0) :: (l.getD (k + 2) 0) :: (l.getD (k + 3) 0) :: l.drop (k + 4) := by
    have g : ∀ i (hi : i < l.length), l.getD i 0 = l[i] := fun i hi => by simp [List.getD_eq_getElem?_getD, List.getElem?_eq_getElem hi]
    rw [List.drop_eq_getElem_cons (show k < l.length by omega), List.drop_eq_getElem_cons (show k + 1 < l.length by omega), List.drop_eq_getElem_cons (show k + 1 + 1 < l.length by omega), List.drop_eq_getElem_cons (show k + 1 + 1 + 1 < l.length by omega)]
    rw [g k (by omega), g (k + 1) (by omega), g (k + 2) (by omega), g (k + 3) (by omega)]
  rw [hd]
  unfold numV le4
  generalize l.getD k 0 = b0
  generalize l.getD (k + 1) 0 = b1
  generalize l.getD (k + 2) 0 = b2
  generalize l.getD (k + 3) 0 = b3
  have h0 := b0.toNat_lt; have h1 := b1.toNat_lt; have h2 := b2.toNat_lt; have h3 := b3.toNat_lt
  simp only [List.take_succ_cons, List.take_zero]
  have e0 : UInt8.ofNat (b0.toNat + 256 * b1.toNat + 65536 * b2.toNat + 16777216 * b3.toNat) = b0 := UInt8.toNat_inj.1 (by rw [UInt8.toNat_ofNat']; omega)
  have e1 : UInt8.ofNat ((b0.toNat + 256 * b1.toNat + 65536 * b2.toNat + 16777216 * b3.toNat) / 256) = b1 := UInt8.toNat_inj.1 (by rw [UInt8.toNat_ofNat']; omega)
  have e2 : UInt8.ofNat ((b0.toNat + 256 * b1.toNat + 65536 * b2.toNat + 16777216 * b3.toNat) / 65536) = b2 := UInt8.toNat_inj.1 (by rw [UInt8.toNat_ofNat']; omega)
  have e3 : UInt8.ofNat ((b0.toNat + 256 * b1.toNat + 65536 * b2.toNat + 16777216 * b3.toNat) / 16777216) = b3 := UInt8.toNat_inj.1 (by rw [UInt8.toNat_ofNat']; omega)
  rw [e0, e1, e2, e3]
theorem bodyL_cons (x : List UInt8) (ms : List (List UInt8)) : bodyL (x :: ms) = le4 x.length ++ x ++ bodyL ms := by unfold bodyL; simp
theorem go_body (l : List UInt8) : ∀ (ms : List (List UInt8)) (k : Nat) (out : List (List UInt8)), k ≤ l.length → (∀ x ∈ ms, x.length < 4294967296) → l.drop k = bodyL ms → partsGo l ms.length k out = some (l.length, out ++ ms)
  | [], k, out, hk, _, h => by
    have : l.length - k = 0 := by rw [← List.length_drop, h]; rfl
    simp only [List.length_nil, partsGo, List.append_nil]
    congr 2
    omega
  | x :: ms, k, out, hk, hx, h => by
    rw [bodyL_cons, List.append_assoc] at h
    have hn := numV_drop l k x.length _ (hx x List.mem_cons_self) h
    have hlen : l.length - k = 4 + x.length + (bodyL ms).length := by rw [← List.length_drop, h, List.length_append, List.length_append, le4_length]; omega
    have hd4 : l.drop (k + 4) = x ++ bodyL ms := by
      rw [← List.drop_drop, h]
      exact List.drop_left' (le4_length _)
    have hpart : partAt l k = x := by
      unfold partAt
      rw [hn, hd4]
      exact List.take_left' rfl
    rw [List.length_cons, partsGo_step (by rw [hn]; omega), hn, hpart]
    have hdn : l.drop (k + 4 + x.length) = bodyL ms := by
      rw [← List.drop_drop, hd4]
      exact List.drop_left' rfl
    rw [go_body l ms (k + 4 + x.length) (out ++ [x]) (by omega) (fun y hy => hx y (List.mem_cons_of_mem _ hy)) hdn, List.append_assoc]
    rfl
theorem parts_of_frame (ls : List (List UInt8)) (h : frameOk ls = true) : partsL (frameL ls) = ls ∧ partsE (frameL ls) = 0 := by
  have h2 := h
  unfold frameOk at h2
  simp only [Bool.and_eq_true, decide_eq_true_eq] at h2
  have hlen := frameL_length ls
  have hge := frameN_ge ls
  have hx : ∀ x ∈ ls, x.length < 4294967296 := fun x hx => by
    have : x.length ≤ frameN ls := by
      clear h h2 hlen hge
      induction ls with
      | nil => cases hx
      | cons y r ih =>
        simp only [frameN]
        rcases List.mem_cons.1 hx with rfl | hx
        · omega
        · have := ih hx; omega
    omega
  have hn : numV (frameL ls) 0 = ls.length := numV_drop _ 0 _ (bodyL ls) (by omega) rfl
  have hd : (frameL ls).drop 4 = bodyL ls := List.drop_left' (le4_length _)
  have hg := go_body (frameL ls) ls 4 [] (by omega) hx hd
  refine parts_good (by omega) ?_
  rw [partsX_end ⟨by omega, by rw [hn]; exact h2.1⟩ (by rw [hn]; exact hg), if_pos rfl]
  rfl
theorem go_back (l : List UInt8) : ∀ (n k : Nat) (acc : List (List UInt8)) (k2 : Nat) (out : List (List UInt8)), k ≤ l.length → partsGo l n k acc = some (k2, out) → ∃ ms, out = acc ++ ms ∧ ms.length = n ∧ k2 ≤ l.length ∧ l.take k2 = l.take k ++ bodyL ms
  | 0, k, acc, k2, out, hk, h => by
    simp only [partsGo, Option.some.injEq, Prod.mk.injEq] at h
    obtain ⟨rfl, rfl⟩ := h
    exact ⟨[], by simp, rfl, hk, by simp [bodyL]⟩
  | n + 1, k, acc, k2, out, hk, h => by
    by_cases hc : k + 4 + numV l k ≤ l.length
    · rw [partsGo_step hc] at h
      obtain ⟨ms, e1, e2, e3, e4⟩ := go_back l n _ _ k2 out hc h
      refine ⟨partAt l k :: ms, by rw [e1]; simp, by simp [e2], e3, ?_⟩
      rw [e4, bodyL_cons, partAt_length hc, ← List.append_assoc]
      congr 1
      rw [List.take_add, List.take_add, le4_numV l k (by omega), List.append_assoc]
      rfl
    · rw [partsGo_stop hc] at h; cases h
theorem frame_of_parts (l : List UInt8) (h : partsE l = 0) : frameOk (partsL l) = true ∧ frameL (partsL l) = l := by
  by_cases hlong : 67108864 < l.length
  · rw [(parts_long hlong).2] at h; exact absurd h (by decide)
  · cases hx : partsX l with
    | none => rw [(parts_bad hlong hx).2] at h; exact absurd h (by decide)
    | some out =>
      rw [(parts_good hlong hx).1]
      by_cases hh : 4 ≤ l.length ∧ numV l 0 ≤ 65536
      · cases hg : partsGo l (numV l 0) 4 [] with
        | none => rw [partsX_go hh hg] at hx; cases hx
        | some p =>
          obtain ⟨k2, o2⟩ := p
          rw [partsX_end hh hg] at hx
          by_cases hk : k2 = l.length
          · rw [if_pos hk] at hx
            obtain rfl := Option.some.inj hx
            obtain ⟨ms, e1, e2, e3, e4⟩ := go_back l _ 4 [] k2 o2 hh.1 hg
            rw [List.nil_append] at e1
            subst e1
            rw [hk, List.take_length] at e4
            have h4 : l.take 4 = le4 (numV l 0) := le4_numV l 0 (by omega)
            have hfl : frameL o2 = l := by unfold frameL; rw [e2, ← h4, ← e4]
            refine ⟨frameOk_true (by rw [e2]; exact hh.2) ?_, hfl⟩
            rw [← frameL_length, hfl]; omega
          · rw [if_neg hk] at hx; cases hx
      · rw [partsX_head hh] at hx; cases hx
theorem frame_inj {ls ms : List (List UInt8)} (h : frameOk ls = true) (h2 : frameOk ms = true) : frameL ls = frameL ms ↔ ls = ms :=
  ⟨fun e => by rw [← (parts_of_frame ls h).1, ← (parts_of_frame ms h2).1, e], fun e => by rw [e]⟩
theorem partsE_three (l : List UInt8) : partsE l = 0 ∨ partsE l = 2 ∨ partsE l = 30 := by
  by_cases hlong : 67108864 < l.length
  · exact .inr (.inl (parts_long hlong).2)
  · cases hx : partsX l with
    | none => exact .inr (.inr (parts_bad hlong hx).2)
    | some out => exact .inl (parts_good hlong hx).2
end Go.Proofs.YtbaeddppihjgfaaDoor.Sg
