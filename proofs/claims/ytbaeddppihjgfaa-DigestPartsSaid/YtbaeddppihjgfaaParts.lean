/- The parts of a frame: what they are; the walks that read a number. -/
import Derived.Test.YtbaeddppihjgfaaFrameC
namespace Go.Proofs.Ytbaeddppihjgfaa.Sg
open Go Go.RowKit Go.Proofs.YtbaeddppihjgfaaW.PrintWords
set_option linter.unusedVariables false
attribute [local go_sem] i_or
/-- The number in four bytes from a place on. -/
def numV (l : List UInt8) (k : Nat) : Nat := (l.getD k 0).toNat + 256 * (l.getD (k + 1) 0).toNat + 65536 * (l.getD (k + 2) 0).toNat + 16777216 * (l.getD (k + 3) 0).toNat
def numI (l : List UInt8) (k : Nat) : Int := if k + 4 ≤ l.length then (numV l k : Int) else -1
theorem numV_at (l : List UInt8) (k : Nat) (h : k + 4 ≤ l.length) : (numV l k : Int) = un (b2w (l[k]'(by omega))) + 256 * un (b2w (l[k + 1]'(by omega))) + 65536 * un (b2w (l[k + 2]'(by omega))) + 16777216 * un (b2w (l[k + 3]'(by omega))) := by
  unfold numV
  simp only [List.getD_eq_getElem?_getD, List.getElem?_eq_getElem (show k < l.length by omega), List.getElem?_eq_getElem (show k + 1 < l.length by omega), List.getElem?_eq_getElem (show k + 2 < l.length by omega), List.getElem?_eq_getElem (show k + 3 < l.length by omega), Option.getD_some, un_b2w]
  omega
theorem numV_lt (l : List UInt8) (k : Nat) : numV l k < 4294967296 := by
  unfold numV
  have h0 := (l.getD k 0).toNat_lt; have h1 := (l.getD (k + 1) 0).toNat_lt; have h2 := (l.getD (k + 2) 0).toNat_lt; have h3 := (l.getD (k + 3) 0).toNat_lt
  omega
set_option maxRecDepth 100000 in
set_option maxHeartbeats 4000000 in
theorem number_calls (l : List UInt8) (k : Nat) (A : Option Addr) (c : Nat) (w : World) (hr : Rb w A l) (hl : l.length ≤ 140737488351232) (hk : k ≤ 140737488351232) :
    Calls Try.prog 35 #[.slice A l.length c, .int .i64 (k : Int)] w fun e w' => e = .returned (.int .i64 (numI l k)) ∧ Fr No w w' := by
  by_cases h4 : k + 4 ≤ l.length
  · obtain ⟨ad, hA, c0⟩ := C_byte hr k (by omega)
    obtain ⟨ad1, hA1, c1⟩ := C_byte hr (k + 1) (by omega)
    obtain ⟨ad2, hA2, c2⟩ := C_byte hr (k + 2) (by omega)
    obtain ⟨ad3, hA3, c3⟩ := C_byte hr (k + 3) (by omega)
    rw [hA] at hA1 hA2 hA3
    obtain rfl := Option.some.inj hA1
    obtain rfl := Option.some.inj hA2
    obtain rfl := Option.some.inj hA3
    subst hA
    have HN : Aside0 (numI l k = _) := ⟨(if_pos h4).trans (numV_at l k h4)⟩
    generalize l[k]'(by omega) = b0 at *
    generalize l[k + 1]'(by omega) = b1 at *
    generalize l[k + 2]'(by omega) = b2 at *
    generalize l[k + 3]'(by omega) = b3 at *
    obtain ⟨k1, hk1⟩ : ∃ q : Nat, k + 1 = q := ⟨_, rfl⟩
    obtain ⟨k2, hk2⟩ : ∃ q : Nat, k + 2 = q := ⟨_, rfl⟩
    obtain ⟨k3, hk3⟩ : ∃ q : Nat, k + 3 = q := ⟨_, rfl⟩
    rw [hk1] at c1
    rw [hk2] at c2
    rw [hk3] at c3
    have e1 : (k : Int) + 1 = (k1 : Int) := by omega
    have e2 : (k : Int) + 2 = (k2 : Int) := by omega
    have e3 : (k : Int) + 3 = (k3 : Int) := by omega
    have h4i : (k : Int) + 4 ≤ (l.length : Int) := by omega
    have hk0 : (0 : Int) ≤ (k : Int) := by omega
    have l0 : (k : Int) < (l.length : Int) := by omega
    have l1 : (k1 : Int) < (l.length : Int) := by omega
    have l2 : (k2 : Int) < (l.length : Int) := by omega
    have l3 : (k3 : Int) < (l.length : Int) := by omega
    clear hr h4 hk1 hk2 hk3
    go_enter Try.func35, Try.ntmps35
    go_wp2_with fail
    have y0 := un_nonneg (b2w b0); have z0 := un_lt (b2w b0)
    have y1 := un_nonneg (b2w b1); have z1 := un_lt (b2w b1)
    have y2 := un_nonneg (b2w b2); have z2 := un_lt (b2w b2)
    have y3 := un_nonneg (b2w b3); have z3 := un_lt (b2w b3)
    go_region
    go_wp2
    go_ret
    exact ⟨by rw [HN.out]; rfl, (Fr.refl No w).drew⟩
  · have HN : Aside0 (numI l k = -1) := ⟨if_neg h4⟩
    go_enter Try.func35, Try.ntmps35
    go_wp2_with fail
    go_ret
    exact ⟨by rw [HN.out]; rfl, Fr.refl _ _⟩
end Go.Proofs.Ytbaeddppihjgfaa.Sg
