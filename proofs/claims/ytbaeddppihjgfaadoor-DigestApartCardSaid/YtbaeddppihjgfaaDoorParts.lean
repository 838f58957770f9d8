/- The number in four bytes of a frame. -/
import Derived.Test.YtbaeddppihjgfaaDoorFrameC
namespace Go.Proofs.YtbaeddppihjgfaaDoor.Sg
open Go Go.RowKit Go.Proofs.YtbaeddppihjgfaaDoorW.PrintWords
set_option linter.unusedVariables false
attribute [local go_sem] i_or
/-- The number in four bytes from a place on. -/
def numV (l : List UInt8) (k : Nat) : Nat := (l.getD k 0).toNat + 256 * (l.getD (k + 1) 0).toNat + 65536 * (l.getD (k + 2) 0).toNat + 16777216 * (l.getD (k + 3) 0).toNat
def numI (l : List UInt8) (k : Nat) : Int := if k + 4 ≤ l.length then (numV l k : Int) else -1
theorem numV_at (l : List UInt8) (k : Nat) (h : k + 4 ≤ l.length) : (numV l k : Int) = un (b2w (l[k]'(by omega))) + 256 * un (b2w (l[k + 1]'(by omega))) + 65536 * un (b2w (l[k + 2]'(by omega))) + 16777216 * un (b2w (l[k + 3]'(by omega))) := by
  unfold numV
  simp only [List.getD_eq_getElem?_getD, List.getElem?_eq_getElem (show k < l.length by omega), List.getElem?_eq_getElem (show k + 1 < l.length by omega), List.getElem?_eq_getElem (show k + 2 < l.length by omega), List.getElem?_eq_getElem (show k + 3 < l.length by omega), Option.getD_some, un_b2w]
  omega
theorem numV_lt (l : List UInt8) (k : Nat) : numV l k < 4294967296 := by
  unfold numV
  have h0 := (l.getD k 0).toNat_lt; have h1 := (l.getD (k + 1) 0).toNat_lt; have h2 := (l.getD (k + 2) 0).toNat_lt; have h3 := (l.getD (k + 3) 0).toNat_lt
  omega
end Go.Proofs.YtbaeddppihjgfaaDoor.Sg
