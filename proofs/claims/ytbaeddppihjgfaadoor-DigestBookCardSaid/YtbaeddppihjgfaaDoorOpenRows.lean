/- How an argument of lists of bytes reads: as the walks take it. -/
import Derived.Deep.Matrix
import Derived.Test.YtbaeddppihjgfaaDoorOpen
import Derived.Test.YtbaeddppihjgfaaDoorRooms
namespace Go.Proofs.YtbaeddppihjgfaaDoor.Sg
open Go Go.RowKit Go.ChangeShapes Go.WideShapes Go.ChangeAt Go.Proofs.YtbaeddppihjgfaaDoorW.PrintWords
set_option linter.unusedVariables false
theorem Rbs.mkA {w : World} {a : Addr} {ls : List (List UInt8)} (hn : ls.length ≤ 9223372036854775807) (h : ∀ i (hi : i < ls.length), ∃ Ai ci, w.cell? (a.add i) = some (.slice Ai ls[i].length ci) ∧ ls[i].length ≤ ci ∧ Rb w Ai ls[i]) : Rbs w (some a) ls := by
  refine ⟨by simp, hn, fun _ => ⟨_, rfl, fun j p hj => ?_⟩⟩
  have hlt : j < ls.length := by
    have := (List.getElem?_eq_some_iff.1 hj).1
    simpa using this
  have hp : p = bi ls[j] := by
    rw [List.getElem?_eq_getElem (by simpa using hlt)] at hj
    simpa using hj.symm
  subst hp
  obtain ⟨Ai, ci, hc, hl, hr⟩ := h j hlt
  refine ⟨[.slice Ai ls[j].length ci], rfl, ⟨Ai, ci, by rw [bi_length], by rw [bi_length]; exact hl, by rw [bi_length]; exact hr⟩, fun i u hu => ?_⟩
  cases i with
  | zero =>
    obtain rfl : Value.slice Ai ls[j].length ci = u := by simpa using hu
    have ha : a.add (j * KB.sz + 0) = a.add j := by simp [Kd.slice]
    rw [ha]; exact hc
  | succ i => simp at hu
theorem weights_all {H : Type} {P : Program} {e : TypeId} : ∀ {elems : List (DataW H)} {d : DataW H}, d ∈ elems → ∀ n ∈ d.weights P e, n ∈ DataW.weightsAll P e elems
  | x :: r, d, hd, n, hn => by
    simp only [DataW.weightsAll, List.mem_append]
    rcases List.mem_cons.1 hd with rfl | hd
    · exact .inl hn
    · exact .inr (weights_all hd n hn)
  | [], d, hd, _, _ => by cases hd
theorem Rb_of_nums {w : World} {A : Option Addr} {l : List UInt8} {zs : List Int} {c : Nat} (hz : zs.take l.length = bi l) (hl : l.length ≤ 9223372036854775807) (hlc : l.length ≤ c) (hA : A = none → c = 0)
    (h : ∀ a, A = some a → ∀ j, j < c → w.cell? (a.add j) = some (.int .u8 (zs.getD j 0))) : Rb w A l := by
  refine Kd.C_of_reads (enc := Value.int .u8) (d := (0 : Int)) (h1 := fun _ => rfl) ⟨bi_length l, hl, fun hp => ?_⟩
  cases A with
  | none => have := hA rfl; omega
  | some a =>
    refine ⟨a, rfl, fun j hj => ?_⟩
    rw [h a rfl j (by omega), ← hz]
    simp [List.getD_eq_getElem?_getD, hj]
set_option maxRecDepth 100000 in
theorem open_rows {H : Type} {enc : TypeId × Value → H} {W : World} {base : Nat} {v : Value} {d : DataW H} {ps : List MemPlace} {ts : List TypeId} {ds : List (DataW H)}
    (hok : Value.okWide Tryd.prog W .any base 34 v) (hsz : (DataW.weightsEach Tryd.prog ts ds).all (· ≤ reachBytes) = true) {j : Nat} (ht : ts[j]? = some 34) (hd : ds[j]? = some d)
    (h : DataW.Trod enc Tryd.prog W 0 (fun _ => true) true 34 v d ps) : ∃ (A : Option Addr) (ls : List (List UInt8)) (c : Nat), v = .slice A ls.length c ∧ Rbs W A ls ∧ ls.length ≤ c ∧ (ls.length ≤ 5864062014634 ∧ ∀ l ∈ ls, l.length ≤ 140737488351232) := by
  obtain ⟨a0, len0, cap0, rfl⟩ := okWide_slice Tryd.underlying34 hok
  obtain ⟨fuel, hf⟩ := h
  rcases Go.Deep.open_int_rows Tryd.underlying34 Tryd.underlying22 Tryd.underlying5 (by kernel_rfl) (by kernel_rfl) hf with ⟨hcs, _⟩ | ⟨a, len, cap, A, L, C, Z, hcs, _, hlc, hcm, hx, hr⟩
  · simp [Value.cells] at hcs
    obtain ⟨rfl, rfl, rfl⟩ := hcs
    exact ⟨none, [], 0, rfl, ⟨rfl, by simp, fun hp => by simp at hp⟩, by simp, by simp, fun l hl => by cases hl⟩
  · simp [Value.cells] at hcs
    obtain ⟨rfl, rfl, rfl⟩ := hcs
    obtain ⟨hx, _⟩ := Prod.mk.inj hx
    subst hx
    have hw1 := sized_slice hsz ht hd Tryd.underlying34
    have hby : (Tryd.prog).bytesOf 22 = 24 := by kernel_rfl
    have hby1 : (Tryd.prog).bytesOf 5 = 1 := by kernel_rfl
    rw [hby] at hw1
    simp only [List.length_map, List.length_range] at hw1
    have hrb : reachBytes = 140737488351232 := by decide
    rw [hrb] at hw1
    have hLs : ∀ r, r < len0 → L r ≤ 140737488351232 := fun r hrl => by
      obtain ⟨_, r1, r2, r3, _, r5, _⟩ := hr r (by omega)
      cases hAr : A r with
      | none => have := r5 hAr; omega
      | some a' =>
        have hm : Go.Deep.intRow (H := H) .u8 (A r) (L r) (Z r) ∈ (List.range len0).map fun r => Go.Deep.intRow (H := H) .u8 (A r) (L r) (Z r) := List.mem_map.2 ⟨r, List.mem_range.2 hrl, rfl⟩
        have hw : ((lits (H := H) .u8 ((Z r).take (L r))).length + (lits (H := H) .u8 ((Z r).drop (L r))).length) * (Tryd.prog).bytesOf 5 ∈ (Go.Deep.intRow (H := H) .u8 (A r) (L r) (Z r)).weights Tryd.prog 22 := by
          rw [hAr]
          simp only [Go.Deep.intRow, DataW.weights, Tryd.underlying22]
          exact List.mem_cons_self
        have h1 := weights_all hm _ hw
        have h2 := List.all_eq_true.1 hsz _ (DataW.weights_mem_each ht hd _ (by
          simp only [DataW.weights, Tryd.underlying34]
          exact List.mem_cons_of_mem _ (List.mem_append_left _ h1)))
        rw [hby1, hrb] at h2
        simp only [lits, List.length_map, List.length_take, List.length_drop, decide_eq_true_eq] at h2
        omega
    have each : ∀ r, r < len0 → ∃ l : List UInt8, l.length = L r ∧ (Z r).take l.length = bi l := fun r hrl => by
      obtain ⟨_, r1, r2, r3, r4, _, _⟩ := hr r (by omega)
      obtain ⟨l, hl⟩ := bytes_of_nums (xs := (Z r).take (L r)) (fun x hx => wf_byte (r4 x (List.mem_of_mem_take hx)))
      have hlen : l.length = L r := by rw [← bi_length, ← hl, List.length_take]; omega
      exact ⟨l, hlen, by rw [hlen, hl]⟩
    obtain ⟨f, hf2⟩ := Go.Deep.choose_lt each
    refine ⟨some a, (List.range len0).map f, cap0, by simp, Rbs.mkA (by simp [maxLen] at *; omega) (fun i hi => ?_), by simpa using hlc, by simp; omega, fun l hl => ?_⟩
    · have hi2 : i < len0 := by simpa using hi
      obtain ⟨e1, r1, r2, r3, r4, r5, r6⟩ := hr i (by omega)
      obtain ⟨g1, g2⟩ := hf2 i hi2
      simp only [List.getElem_map, List.getElem_range]
      rw [g1]
      exact ⟨_, _, e1, r1, Rb_of_nums g2 (by rw [g1]; have := hLs i hi2; omega) (by rw [g1]; exact r1) r5 (fun a' ha j hj => (r6 a' ha).2 j hj)⟩
    · obtain ⟨r, hr2, rfl⟩ := List.mem_map.1 hl
      have hr3 := List.mem_range.1 hr2
      rw [(hf2 r hr3).1]
      exact hLs r hr3
end Go.Proofs.YtbaeddppihjgfaaDoor.Sg
