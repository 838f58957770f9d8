/- How an argument of turns reads: three whole numbers each. -/
import Derived.Deep.SlicePairs
import Derived.Test.YtbaeddppihjgfaaOpen
namespace Go.Proofs.Ytbaeddppihjgfaa.Sg
open Go Go.RowKit Go.ChangeShapes Go.WideShapes Go.ChangeAt Go.Proofs.YtbaeddppihjgfaaW.PrintWords
set_option linter.unusedVariables false
/-- Rows of three whole numbers each. -/
def TurnsR (w : World) (A : Option Addr) (n : Nat) : Prop := 0 < n → ∃ ad, A = some ad ∧ ∀ i, i < n → ∃ k a v : Int, w.cell? (ad.add (i * 3)) = some (.int .i64 k) ∧ w.cell? (ad.add (i * 3 + 1)) = some (.int .i64 a) ∧ w.cell? (ad.add (i * 3 + 2)) = some (.int .i64 v)
theorem TurnsR.fr {w w' : World} {A : Option Addr} {n : Nat} (h : TurnsR w A n) (hf : Fr No w w') : TurnsR w' A n := fun hn => by
  obtain ⟨ad, e, hc⟩ := h hn
  refine ⟨ad, e, fun i hi => ?_⟩
  obtain ⟨k, a, v, h0, h1, h2⟩ := hc i hi
  exact ⟨k, a, v, hf.cell h0 id, hf.cell h1 id, hf.cell h2 id⟩
set_option maxRecDepth 100000 in
theorem open_turns {H : Type} {enc : TypeId × Value → H} {W : World} {base : Nat} {v : Value} {d : DataW H} {ps : List MemPlace} {ts : List TypeId} {ds : List (DataW H)}
    (hok : Value.okWide Try.prog W .any base 40 v) (hsz : (DataW.weightsEach Try.prog ts ds).all (· ≤ reachBytes) = true) {j : Nat} (ht : ts[j]? = some 40) (hd : ds[j]? = some d)
    (h : DataW.Trod enc Try.prog W 0 (fun _ => true) true 40 v d ps) : ∃ (A : Option Addr) (n : Nat) (c : Nat), v = .slice A n c ∧ TurnsR W A n ∧ n ≤ c ∧ n ≤ 140737488351232 := by
  obtain ⟨a0, len0, cap0, rfl⟩ := okWide_slice Try.underlying40 hok
  obtain ⟨fuel, hf⟩ := h
  rcases Go.Deep.open_slice Try.underlying40 hf with ⟨hcs, _⟩ | ⟨a, len, cap, m, n, D, Pl, hcs, _, hl, hm, hmm, hx, hel⟩
  · simp [Value.cells] at hcs
    obtain ⟨rfl, rfl, rfl⟩ := hcs
    exact ⟨none, 0, 0, rfl, fun hn => by omega, by omega, by omega⟩
  · simp [Value.cells] at hcs
    obtain ⟨rfl, rfl, rfl⟩ := hcs
    obtain ⟨hx, _⟩ := Prod.mk.inj hx
    subst hx
    simp only [if_true] at hmm
    have hw1 := sized_slice hsz ht hd Try.underlying40
    have hby : (Try.prog).bytesOf 46 = 24 := by kernel_rfl
    have hce : (Try.prog).cellsOf 46 = 3 := by kernel_rfl
    have hcI : (Try.prog).cellsOf 3 = 1 := by kernel_rfl
    rw [hby] at hw1
    simp only [List.length_map, List.length_range] at hw1
    have hrb : reachBytes = 140737488351232 := by decide
    rw [hrb] at hw1
    refine ⟨some a, len0, cap0, rfl, fun _ => ⟨a, rfl, fun i hi => ?_⟩, hl, by omega⟩
    obtain ⟨cs', h1, h2⟩ := hel i (by omega)
    rw [hce] at h1
    obtain ⟨_, hlen, hcell⟩ := World.cells?_some h1
    obtain ⟨xs, k, hk, hxy, _, hxl, hff⟩ := DataW.trod_struct Try.underlying46 h2
    match xs, hxl, cs', hlen with
    | [y0, y1, y2], _, [v0, v1, v2], _ =>
      have g0 := hff 0 _ rfl
      have g1 := hff 1 _ rfl
      have g2 := hff 2 _ rfl
      simp [hcI] at g0 g1 g2
      obtain ⟨k0, r0, _⟩ := DataW.trod_int Try.underlying3 g0
      obtain ⟨k1, r1, _⟩ := DataW.trod_int Try.underlying3 g1
      obtain ⟨k2, r2, _⟩ := DataW.trod_int Try.underlying3 g2
      have e0 := hcell 0 (by omega)
      have e1 := hcell 1 (by omega)
      have e2 := hcell 2 (by omega)
      rw [Go.Deep.add_add] at e0 e1 e2
      obtain rfl : v0 = .int .i64 k0 := by simpa using r0
      obtain rfl : v1 = .int .i64 k1 := by simpa using r1
      obtain rfl : v2 = .int .i64 k2 := by simpa using r2
      exact ⟨k0, k1, k2, by simpa using e0, by simpa using e1, by simpa using e2⟩
end Go.Proofs.Ytbaeddppihjgfaa.Sg
