/- The walks of the program's rounds: the turn of a word, one round, the schedule's closures, the words of a block, the state behind a block. -/
import Derived.Test.YtbaeddppihjgfaaDoorProg
import Derived.KernelRfl
import Derived.Deep.QuietTactic
import Derived.BigQuiet
import Derived.Deep.RegionHeld3
import Derived.BigRegion
import Derived.WalkLawsBesides
import Derived.WalkSpells
import Derived.Test.YtbaeddppihjgfaaDoorBase
import Derived.Test.YtbaeddppihjgfaaDoorMgSha
namespace Go.Proofs.YtbaeddppihjgfaaDoor.Sg
open Go Go.RowKit Go.Proofs.YtbaeddppihjgfaaDoorW.PrintWords
set_option linter.unusedVariables false
attribute [local go_sem] u_signed u_xor u_and u_or u_add u_add' u_not u_div8 u_div1024 u_wrap u_wrap'
theorem rot_val (x : W) (n : Int) : bits BinOp.or IntKind.u32 (un x * 2 ^ (32 - n).toNat % 4294967296) (un x / 2 ^ (32 - (32 - n)).toNat) = un (x <<< (32 - n).toNat ||| x >>> n.toNat) := by
  rw [u_shl', u_shr, u_or, show 32 - (32 - n) = n by omega]
theorem rot_count (n : Int) (h2 : 1 ≤ n) (h3 : n ≤ 31) : bits .and .u64 (IntKind.u64.wrap (-n)) 31 = 32 - n := by
  have h : ∀ m : Fin 31, bits .and .u64 (IntKind.u64.wrap (-((m.val : Int) + 1))) 31 = 32 - ((m.val : Int) + 1) := by decide +kernel
  have := h ⟨(n - 1).toNat, by omega⟩
  have e : (((n - 1).toNat : Nat) : Int) + 1 = n := by omega
  rw [show ((⟨(n - 1).toNat, by omega⟩ : Fin 31).val) = (n - 1).toNat from rfl, e] at this
  exact this
set_option maxHeartbeats 1000000 in
theorem rot_calls (x : W) (n : Int) (w : World) (h2 : 1 ≤ n) (h3 : n ≤ 31) :
    Calls Tryd.prog 83 #[.int .u32 (un x), .int .i64 (-n)] w fun e w' => e = .returned (.int .u32 (un (x <<< (32 - n).toNat ||| x >>> n.toNat))) ∧ w = w' := by
  have hc := rot_count n h2 h3
  go_enter Tryd.func83, Tryd.ntmps83
  go_wp2
  go_ret
  exact ⟨congrArg (fun z => Ending.returned (.int .u32 z)) (rot_val x n), rfl⟩
set_option maxHeartbeats 1000000 in
theorem r_calls (x : W) (n : Int) (w : World) (h2 : 1 ≤ n) (h3 : n ≤ 31) :
    Calls Tryd.prog 79 #[.int .u32 (un x), .int .i64 n] w fun e w' => e = .returned (.int .u32 (un (x <<< (32 - n).toNat ||| x >>> n.toNat))) ∧ w = w' := by
  go_enter Tryd.func79, Tryd.ntmps79
  go_wp2_with fail
  refine (rot_calls x n _ h2 h3).mono ?_
  rintro e w' ⟨rfl, rfl⟩
  go_wp2
  go_ret
  exact ⟨rfl, rfl⟩
/-- Eight words in a block of type t. -/
def St8 (w : World) (g : Nat) (t : TypeId) (s : S8) : Prop :=
  w.heap[g]? = some (.cells #[.int .u32 (un s.a), .int .u32 (un s.b), .int .u32 (un s.c), .int .u32 (un s.d), .int .u32 (un s.e), .int .u32 (un s.f), .int .u32 (un s.g), .int .u32 (un s.h)] t (0, 0))
theorem St8.free {w : World} {g : Nat} {t : TypeId} {s : S8} (h : St8 w g t s) (j : Nat) : w.frozen? ⟨g, j, none⟩ = false := by
  have hb : w.heap[g]? = some _ := h
  simp [World.frozen?, hb]
theorem St8.lt {w : World} {g : Nat} {t : TypeId} {s : S8} (h : St8 w g t s) : g < w.heap.size := (Array.getElem?_eq_some_iff.1 h).1
theorem set8 {w : World} {g : Nat} {t : TypeId} {v0 v1 v2 v3 v4 v5 v6 v7 u0 u1 u2 u3 u4 u5 u6 u7 : Value} (h : w.heap[g]? = some (.cells #[v0, v1, v2, v3, v4, v5, v6, v7] t (0, 0))) :
    ((((((((w.setCell ⟨g, 0, none⟩ u0).setCell ⟨g, 1, none⟩ u1).setCell ⟨g, 2, none⟩ u2).setCell ⟨g, 3, none⟩ u3).setCell ⟨g, 4, none⟩ u4).setCell ⟨g, 5, none⟩ u5).setCell ⟨g, 6, none⟩ u6).setCell ⟨g, 7, none⟩ u7).heap[g]? = some (.cells #[u0, u1, u2, u3, u4, u5, u6, u7] t (0, 0)) := by
  have h0 : (w.setCell ⟨g, 0, none⟩ u0).heap[g]? = some (.cells #[u0, v1, v2, v3, v4, v5, v6, v7] t (0, 0)) := blk_put h 0 u0 rfl
  have h1 : ((w.setCell ⟨g, 0, none⟩ u0).setCell ⟨g, 1, none⟩ u1).heap[g]? = some (.cells #[u0, u1, v2, v3, v4, v5, v6, v7] t (0, 0)) := blk_put h0 1 u1 rfl
  have h2 : (((w.setCell ⟨g, 0, none⟩ u0).setCell ⟨g, 1, none⟩ u1).setCell ⟨g, 2, none⟩ u2).heap[g]? = some (.cells #[u0, u1, u2, v3, v4, v5, v6, v7] t (0, 0)) := blk_put h1 2 u2 rfl
  have h3 : ((((w.setCell ⟨g, 0, none⟩ u0).setCell ⟨g, 1, none⟩ u1).setCell ⟨g, 2, none⟩ u2).setCell ⟨g, 3, none⟩ u3).heap[g]? = some (.cells #[u0, u1, u2, u3, v4, v5, v6, v7] t (0, 0)) := blk_put h2 3 u3 rfl
  have h4 : (((((w.setCell ⟨g, 0, none⟩ u0).setCell ⟨g, 1, none⟩ u1).setCell ⟨g, 2, none⟩ u2).setCell ⟨g, 3, none⟩ u3).setCell ⟨g, 4, none⟩ u4).heap[g]? = some (.cells #[u0, u1, u2, u3, u4, v5, v6, v7] t (0, 0)) := blk_put h3 4 u4 rfl
  have h5 : ((((((w.setCell ⟨g, 0, none⟩ u0).setCell ⟨g, 1, none⟩ u1).setCell ⟨g, 2, none⟩ u2).setCell ⟨g, 3, none⟩ u3).setCell ⟨g, 4, none⟩ u4).setCell ⟨g, 5, none⟩ u5).heap[g]? = some (.cells #[u0, u1, u2, u3, u4, u5, v6, v7] t (0, 0)) := blk_put h4 5 u5 rfl
  have h6 : (((((((w.setCell ⟨g, 0, none⟩ u0).setCell ⟨g, 1, none⟩ u1).setCell ⟨g, 2, none⟩ u2).setCell ⟨g, 3, none⟩ u3).setCell ⟨g, 4, none⟩ u4).setCell ⟨g, 5, none⟩ u5).setCell ⟨g, 6, none⟩ u6).heap[g]? = some (.cells #[u0, u1, u2, u3, u4, u5, u6, v7] t (0, 0)) := blk_put h5 6 u6 rfl
  have h7 : ((((((((w.setCell ⟨g, 0, none⟩ u0).setCell ⟨g, 1, none⟩ u1).setCell ⟨g, 2, none⟩ u2).setCell ⟨g, 3, none⟩ u3).setCell ⟨g, 4, none⟩ u4).setCell ⟨g, 5, none⟩ u5).setCell ⟨g, 6, none⟩ u6).setCell ⟨g, 7, none⟩ u7).heap[g]? = some (.cells #[u0, u1, u2, u3, u4, u5, u6, u7] t (0, 0)) := blk_put h6 7 u7 rfl
  exact h7
theorem Fr.set8 {S : Nat → Prop} {w w1 : World} (h : Fr S w w1) {g : Nat} (hg : S g ∨ w.heap.size ≤ g) (u0 u1 u2 u3 u4 u5 u6 u7 : Value) :
    Fr S w ((((((((w1.setCell ⟨g, 0, none⟩ u0).setCell ⟨g, 1, none⟩ u1).setCell ⟨g, 2, none⟩ u2).setCell ⟨g, 3, none⟩ u3).setCell ⟨g, 4, none⟩ u4).setCell ⟨g, 5, none⟩ u5).setCell ⟨g, 6, none⟩ u6).setCell ⟨g, 7, none⟩ u7) :=
  (((((((h.setCell hg u0).setCell hg u1).setCell hg u2).setCell hg u3).setCell hg u4).setCell hg u5).setCell hg u6).setCell hg u7
set_option maxRecDepth 100000 in
set_option maxHeartbeats 2000000 in
theorem round_calls (s : S8) (k x : W) (g0 : Nat) (w : World) (hb : St8 w g0 84 s) :
    Calls Tryd.prog 78 #[.int .u32 (un k), .int .u32 (un x), .pointer (some ⟨g0, 0, none⟩)] w fun e w' => e = .returned (.tuple #[]) ∧ St8 w' g0 84 (rnd s k x) ∧ Fr (fun j => j = g0) w w' := by
  have HB := Aside0.mk hb
  obtain ⟨a, b, c, d, e, f, g, hh⟩ := s
  have hb1 : w.heap[g0]? = some (.cells #[.int .u32 (un a), .int .u32 (un b), .int .u32 (un c), .int .u32 (un d), .int .u32 (un e), .int .u32 (un f), .int .u32 (un g), .int .u32 (un hh)] 84 (0, 0)) := hb
  have hc0 : w.cell? ⟨g0, 0, none⟩ = some (.int .u32 (un a)) := by simp [World.cell?, hb1]
  have hc1 : w.cell? ⟨g0, 1, none⟩ = some (.int .u32 (un b)) := by simp [World.cell?, hb1]
  have hc2 : w.cell? ⟨g0, 2, none⟩ = some (.int .u32 (un c)) := by simp [World.cell?, hb1]
  have hc3 : w.cell? ⟨g0, 3, none⟩ = some (.int .u32 (un d)) := by simp [World.cell?, hb1]
  have hc4 : w.cell? ⟨g0, 4, none⟩ = some (.int .u32 (un e)) := by simp [World.cell?, hb1]
  have hc5 : w.cell? ⟨g0, 5, none⟩ = some (.int .u32 (un f)) := by simp [World.cell?, hb1]
  have hc6 : w.cell? ⟨g0, 6, none⟩ = some (.int .u32 (un g)) := by simp [World.cell?, hb1]
  have hc7 : w.cell? ⟨g0, 7, none⟩ = some (.int .u32 (un hh)) := by simp [World.cell?, hb1]
  have hf : ∀ j, w.frozen? ⟨g0, j, none⟩ = false := fun j => HB.out.free j
  have HB1 := Aside0.mk hb1
  clear hb hb1
  go_enter Tryd.func78, Tryd.ntmps78
  go_wp2_with fail
  go_region
  go_wp2_with fail
  go_quiet ((go_at_call 79; refine (r_calls _ _ _ (by decide) (by decide)).mono ?_; rintro e w' ⟨rfl, rfl⟩; exact ⟨rfl, _, rfl⟩))
  go_wp2_with (go_at_call 79; refine (r_calls _ _ _ (by decide) (by decide)).mono ?_; rintro e w' ⟨rfl, rfl⟩)
  go_end0
  exact ⟨rfl, set8 HB1.out, ((Fr.refl (fun j => j = g0) w).drewN _).set8 (.inl rfl) _ _ _ _ _ _ _ _⟩
end Go.Proofs.YtbaeddppihjgfaaDoor.Sg
