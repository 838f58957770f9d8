/- The walk of the closure that reads a frame's numbers. -/
import Derived.Test.YtbaeddppihjgfaaDoorParts
import Derived.Test.YtbaeddppihjgfaaDoorSha
namespace Go.Proofs.YtbaeddppihjgfaaDoor.Sg
open Go Go.RowKit Go.Proofs.YtbaeddppihjgfaaDoorW.PrintWords
set_option linter.unusedVariables false
theorem shl8 (b : UInt8) : un (b2w b) * (256 : Int) = un (b2w b <<< (8 : Nat)) := by
  rw [← u_shl' (b2w b) 8, un_b2w]; have := b.toNat_lt; omega
theorem shl16 (b : UInt8) : un (b2w b) * (65536 : Int) = un (b2w b <<< (16 : Nat)) := by
  rw [← u_shl' (b2w b) 16, un_b2w]; have := b.toNat_lt; omega
theorem shl24 (b : UInt8) : un (b2w b) * (16777216 : Int) = un (b2w b <<< (24 : Nat)) := by
  rw [← u_shl' (b2w b) 24, un_b2w]; have := b.toNat_lt; omega
theorem num_or (b0 b1 b2 b3 : UInt8) : un (b2w b0 ||| b2w b1 <<< 8 ||| b2w b2 <<< 16 ||| b2w b3 <<< 24) = un (b2w b0) + 256 * un (b2w b1) + 65536 * un (b2w b2) + 16777216 * un (b2w b3) := by
  have h := un_be4 b3 b2 b1 b0
  unfold be4 at h
  have e : b2w b0 ||| b2w b1 <<< 8 ||| b2w b2 <<< 16 ||| b2w b3 <<< 24 = b2w b3 <<< 24 ||| b2w b2 <<< 16 ||| b2w b1 <<< 8 ||| b2w b0 := by
    rw [BitVec.or_comm (b2w b0), BitVec.or_comm (b2w b1 <<< 8 ||| b2w b0), BitVec.or_comm (b2w b2 <<< 16 ||| (b2w b1 <<< 8 ||| b2w b0)), BitVec.or_assoc, BitVec.or_assoc]
  rw [e, h, un_b2w, un_b2w, un_b2w, un_b2w]
  omega
theorem num_bits (b0 b1 b2 b3 : UInt8) : bits .or .i64 (bits .or .i64 (bits .or .i64 (un (b2w b0)) (un (b2w b1) * 256)) (un (b2w b2) * 65536)) (un (b2w b3) * 16777216) = un (b2w b0) + 256 * un (b2w b1) + 65536 * un (b2w b2) + 16777216 * un (b2w b3) := by
  rw [shl8, shl16, shl24, i_or, i_or, i_or, num_or]
def BoxS (w : World) (g : Nat) (v : Value) : Prop := w.heap[g]? = some (.cells #[v] 22 (0, 0))
def IntAt (w : World) (g : Nat) (k : Int) : Prop := w.heap[g]? = some (.cells #[.int .i64 k] 3 (0, 0))
theorem BoxS.cell {w : World} {g : Nat} {v : Value} (h : BoxS w g v) : w.cell? ⟨g, 0, none⟩ = some v := cell_of_row _ g 0 _ _ _ h
theorem IntAt.cell {w : World} {g : Nat} {k : Int} (h : IntAt w g k) : w.cell? ⟨g, 0, none⟩ = some (.int .i64 k) := cell_of_row _ g 0 _ _ _ h
theorem IntAt.free {w : World} {g : Nat} {k : Int} (h : IntAt w g k) (j : Nat) : w.frozen? ⟨g, j, none⟩ = false := by
  have hb : w.heap[g]? = some (.cells #[.int .i64 k] 3 (0, 0)) := h
  simp [World.frozen?, hb]
theorem IntAt.set {w : World} {g : Nat} {k : Int} (h : IntAt w g k) (n : Int) : IntAt (w.setCell ⟨g, 0, none⟩ (.int .i64 n)) g n := blk_put h 0 _ rfl
theorem box_ne {w : World} {f g : Nat} {v : Value} {k : Int} (h : BoxS w f v) (h2 : IntAt w g k) : f ≠ g := fun e => by
  subst e
  have h1 : w.heap[f]? = _ := h
  have h3 : w.heap[f]? = _ := h2
  rw [h1] at h3
  injection h3 with h3
  injection h3 with _ h4 _
  exact absurd h4 (by decide)
set_option maxRecDepth 100000 in
set_option maxHeartbeats 4000000 in
theorem num_calls (l : List UInt8) (k : Nat) (A : Option Addr) (c : Nat) (fb ab : Nat) (w : World) (hs : BoxS w fb (.slice A l.length c)) (hi : IntAt w ab (k : Int)) (hc : l.length ≤ c) (hr : ∀ w', Fr (fun b => b = ab) w w' → Rb w' A l)
    (hl : l.length ≤ 67108864) (hk : k ≤ l.length) :
    Calls Tryd.prog 70 #[.pointer (some ⟨fb, 0, none⟩), .pointer (some ⟨ab, 0, none⟩)] w fun e w' => e = .returned (.int .i64 (numI l k)) ∧ IntAt w' ab (if k + 4 ≤ l.length then (k : Int) + 4 else (k : Int)) ∧ Fr (fun b => b = ab) w w' := by
  have hne := box_ne hs hi
  have cs := hs.cell
  have ci := hi.cell
  have cf := hi.free
  by_cases h4 : k + 4 ≤ l.length
  · have HS := Aside0.mk (hi.set ((k : Int) + 4))
    have hw1 : Fr (fun b => b = ab) w (w.setCell ⟨ab, 0, none⟩ (.int .i64 ((k : Int) + 4))) := (Fr.refl (fun b => b = ab) w).setCell (.inl rfl) _
    have hrb := hr _ hw1
    have HF := Aside0.mk hw1
    have hrd := Rb_drop hrb k (by omega) hc
    rw [if_neg (by omega)] at hrd
    obtain ⟨ad, hA, c0⟩ := C_byte hrd 0 (by rw [List.length_drop]; omega)
    obtain ⟨ad1, hA1, c1⟩ := C_byte hrd 1 (by rw [List.length_drop]; omega)
    obtain ⟨ad2, hA2, c2⟩ := C_byte hrd 2 (by rw [List.length_drop]; omega)
    obtain ⟨ad3, hA3, c3⟩ := C_byte hrd 3 (by rw [List.length_drop]; omega)
    rw [hA] at hA1 hA2 hA3
    obtain rfl := Option.some.inj hA1
    obtain rfl := Option.some.inj hA2
    obtain rfl := Option.some.inj hA3
    simp only [List.getElem_drop, Nat.add_zero] at c0 c1 c2 c3
    have HN : Aside0 (numI l k = _) := ⟨(if_pos h4).trans (numV_at l k h4)⟩
    have HI : Aside0 ((if k + 4 ≤ l.length then (k : Int) + 4 else (k : Int)) = (k : Int) + 4) := ⟨if_pos h4⟩
    generalize l[k]'(by omega) = b0 at *
    generalize l[k + 1]'(by omega) = b1 at *
    generalize l[k + 2]'(by omega) = b2 at *
    generalize l[k + 3]'(by omega) = b3 at *
    have h4i : (k : Int) + 4 ≤ (l.length : Int) := by omega
    have hn4 : ¬ ((l.length : Int) - (k : Int) < 4) := by omega
    obtain ⟨ad0, rfl⟩ : ∃ ad0, A = some ad0 := by
      cases A with
      | none => simp at hA
      | some a => exact ⟨a, rfl⟩
    have hca : ad0.add k = ad := by simpa using hA
    have HCA := Aside0.mk hca
    have hck : ¬ c = k := by omega
    clear hr hrb hrd hA hca hw1 hs hi
    go_enter Tryd.func70, Tryd.ntmps70
    go_wp2_with fail
    rw [HCA.out]
    have y0 := un_nonneg (b2w b0); have y1 := un_nonneg (b2w b1); have y2 := un_nonneg (b2w b2); have y3 := un_nonneg (b2w b3)
    have z0 : un (b2w b0) < 256 := by rw [un_b2w]; have := b0.toNat_lt; omega
    have z1 : un (b2w b1) < 256 := by rw [un_b2w]; have := b1.toNat_lt; omega
    have z2 : un (b2w b2) < 256 := by rw [un_b2w]; have := b2.toNat_lt; omega
    have z3 : un (b2w b3) < 256 := by rw [un_b2w]; have := b3.toNat_lt; omega
    have d0 : (w.setCell ⟨ab, 0, none⟩ (.int .i64 ((k : Int) + 4))).cell? ad = some (.int .u8 (un (b2w b0))) := by have h := c0; rwa [show ad.add 0 = ad from by unfold Addr.add; cases ad; simp] at h
    have d1 := c1; have d2 := c2; have d3 := c3
    simp [go_sem] at d1 d2 d3
    have i0 : 0 < l.length - k := by omega
    have i1 : 1 < l.length - k := by omega
    have i2 : 2 < l.length - k := by omega
    have i3 : 3 < l.length - k := by omega
    go_region
    go_wp2
    go_ret
    exact ⟨by rw [HN.out]; exact congrArg (fun z => Ending.returned (.int .i64 z)) (num_bits b0 b1 b2 b3), HS.out, HF.out.drew⟩
  · have HN : Aside0 (numI l k = -1) := ⟨if_neg h4⟩
    have HI := Aside0.mk hi
    have hlt : (l.length : Int) - (k : Int) < 4 := by omega
    go_enter Tryd.func70, Tryd.ntmps70
    go_wp2_with fail
    go_ret
    exact ⟨by rw [HN.out]; rfl, HI.out, Fr.refl _ _⟩
end Go.Proofs.YtbaeddppihjgfaaDoor.Sg
