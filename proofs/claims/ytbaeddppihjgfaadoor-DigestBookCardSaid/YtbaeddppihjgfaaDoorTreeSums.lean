/- The walks of split, Cut and sums. -/
import Derived.Test.YtbaeddppihjgfaaDoorMgSha
import Derived.Test.YtbaeddppihjgfaaDoorRooms
import Derived.Test.YtbaeddppihjgfaaDoorPiecesWalk
namespace Go.Proofs.YtbaeddppihjgfaaDoor.Sg
open Go Go.RowKit Go.Proofs.YtbaeddppihjgfaaDoorW.PrintWords
set_option linter.unusedVariables false
set_option maxHeartbeats 1000000 in
theorem split_calls (n : Nat) (h2 : 2 ≤ n) (hn : n ≤ 140737488355328) (w : World) :
    Calls Tryd.prog 68 #[.int .i64 (n : Int)] w fun e w' => e = .returned (.int .i64 ((cutN n : Nat) : Int)) ∧ w = w' := by
  go_enter Tryd.func68, Tryd.ntmps68
  go_wp2
  go_loop [3] (fun i => ∃ j p : Nat, Aside0 (2 ^ j = p) ∧ p < n ∧ i = .int .i64 p) (fun i => n - (intOf i).toNat)
  case atStart => exact ⟨0, 1, ⟨rfl⟩, by omega, rfl⟩
  case round =>
    obtain ⟨j, p, HP, hp, rfl⟩ := hrel
    by_cases hlt : 2 * p < n
    · go_wp2
      have hpos : 1 ≤ p := by rw [← HP.out]; exact Nat.one_le_two_pow
      go_round
      case rel => exact ⟨j + 1, 2 * p, ⟨by rw [Nat.pow_succ, HP.out]; omega⟩, hlt, by congr 1; omega⟩
      case measure => simp [intOf]; omega
    · have HC := Aside0.mk (cut_unique h2 (j := j) (by rw [HP.out]; exact hp) (by rw [HP.out]; omega))
      go_wp2
      go_ret
      exact ⟨by rw [← HC.out, HP.out]; try rfl, rfl⟩
set_option maxHeartbeats 1000000 in
theorem cut_calls (n : Nat) (h2 : 2 ≤ n) (hn : n ≤ 140737488355328) (w : World) :
    Calls Tryd.prog 71 #[.int .i64 (n : Int)] w fun e w' => e = .returned (.int .i64 ((cutN n : Nat) : Int)) ∧ w = w' := by
  go_enter Tryd.func71, Tryd.ntmps71
  go_wp2
  go_loop [3] (fun i => ∃ j p : Nat, Aside0 (2 ^ j = p) ∧ p < n ∧ i = .int .i64 p) (fun i => n - (intOf i).toNat)
  case atStart => exact ⟨0, 1, ⟨rfl⟩, by omega, rfl⟩
  case round =>
    obtain ⟨j, p, HP, hp, rfl⟩ := hrel
    by_cases hlt : 2 * p < n
    · go_wp2
      have hpos : 1 ≤ p := by rw [← HP.out]; exact Nat.one_le_two_pow
      go_round
      case rel => exact ⟨j + 1, 2 * p, ⟨by rw [Nat.pow_succ, HP.out]; omega⟩, hlt, by first | rfl | (congr 1; omega)⟩
      case measure => simp [intOf]; omega
    · have HC := Aside0.mk (cut_unique h2 (j := j) (by rw [HP.out]; exact hp) (by rw [HP.out]; omega))
      go_wp2
      go_ret
      exact ⟨by rw [← HC.out, HP.out]; try rfl, rfl⟩
theorem flat_len_le (ps : LL) (k : Nat) : (ps.take k).flatten.length ≤ ps.flatten.length := by
  have h : (ps.take k ++ ps.drop k).flatten.length = ps.flatten.length := by rw [List.take_append_drop]
  rw [List.flatten_append, List.length_append] at h; omega
theorem flat_succ (ps : LL) (k : Nat) (hk : k < ps.length) : (ps.take (k + 1)).flatten = (ps.take k).flatten ++ ps[k] := by
  rw [List.take_succ_eq_append_getElem hk, List.flatten_append]; simp
/-- The pieces' sum. -/
theorem sums_calls (ps : LL) (A : Option Addr) (n c : Nat) (hn : n = ps.length) (w : World) (hr : Rbs w A ps) (hl : ps.flatten.length ≤ 140737488352256) (hK : KAt w) (hF : FirstAt w) :
    Calls Tryd.prog 62 #[.slice A n c] w fun e w' => ∃ v, e = .returned v ∧ Mine w' w.heap.size v (bi (sha ps.flatten)) ∧ Fr No w w' := by
  subst hn
  have HR := Aside0.mk hr; have HK := Aside0.mk hK; have HF0 := Aside0.mk hF; have HL := Aside0.mk hl
  have HKL := Aside0.mk hK.lt
  have hN : ps.length ≤ 9223372036854775807 := hr.2.1
  clear hr hK hF hl
  go_enter Tryd.func62, Tryd.ntmps62
  go_wp2_with fail
  refine (newB_calls w HF0.out).mono ?_
  rintro e w1 ⟨H, rfl, hh, hf⟩
  have HH1 : Aside0 (HashNew w.heap.size w1 H (ps.take 0).flatten) := ⟨hh⟩
  have HF1 := Aside0.mk hf
  clear hh hf
  go_wp2_with fail
  go_loopw [9] (fun i wr => ∃ k : Nat, k ≤ ps.length ∧ i = .int .i64 k ∧ Aside0 (HashNew w.heap.size wr H (ps.take k).flatten) ∧ Aside0 (Fr No w wr)) (fun i _ => ps.length - (intOf i).toNat)
  case atStart => exact ⟨0, by omega, rfl, HH1, HF1⟩
  case round =>
    clear HH1 HF1
    obtain ⟨k, hk, rfl, HH, HF⟩ := hrel
    by_cases hlt : k < ps.length
    · obtain ⟨ad, Ai, ci, hA, hcell, hci, hrb⟩ := (HR.out.fr HF.out).at_ k hlt
      subst hA
      have HS := Aside0.mk (flat_succ ps k hlt)
      have HLE : Aside0 ((ps.take k).flatten.length + (ps[k]'hlt).length ≤ 140737488353280) := ⟨by have h1 := flat_len_le ps (k + 1); rw [flat_succ ps k hlt, List.length_append] at h1; have := HL.out; omega⟩
      have HRA : Aside0 (∀ w', Fr (fun b => w.heap.size ≤ b) wr w' → Rb w' Ai (ps[k]'hlt)) := ⟨fun w' hf => by
        obtain ⟨ad2, Aj, cj, hA2, hc2, _, hrj⟩ := (HR.out.fr (HF.out.trans hf (fun b hb => .inr hb))).at_ k hlt
        obtain ⟨ad3, Ak, ck, hA3, hc3, _, hrk⟩ := HR.out.at_ k hlt
        obtain rfl := Option.some.inj (hA2.symm.trans hA3)
        have e1 := HF.out.cell hc3 id
        have e2 := (HF.out.trans hf (fun b hb => .inr hb) : Fr No w w').cell hc3 id
        obtain rfl := Option.some.inj hA3
        rw [hcell] at e1
        rw [hc2] at e2
        simp only [Option.some.injEq, Value.slice.injEq] at e1 e2
        obtain ⟨rfl, _, _⟩ := e1
        obtain ⟨rfl, _, _⟩ := e2
        exact hrj⟩
      clear hrb
      go_wp2_with fail
      refine (addB_calls w.heap.size wr H (ps.take k).flatten HH.out (ps[k]'hlt) _ rfl Ai ci hci HRA.out HLE.out (HK.out.fr HF.out id) HKL.out).mono ?_
      rintro e w2 ⟨rfl, hh, hf⟩
      rw [← HS.out] at hh
      have HH2 := Aside0.mk hh
      have HF2 : Aside0 (Fr No w w2) := ⟨HF.out.trans hf (fun b hb => .inr hb)⟩
      clear hh hf HRA HH HF hcell
      go_wp2_with fail
      exact ⟨⟨k + 1, by omega, by go_num, HH2, HF2⟩, by simp [intOf]; omega⟩
    · obtain rfl : k = ps.length := by omega
      rw [List.take_length] at HH
      go_wp2_with fail
      refine (sumB_calls w.heap.size wr H ps.flatten HH.out (HK.out.fr HF.out id) HL.out).mono ?_
      rintro e w2 ⟨v, rfl, hm, hf⟩
      have HM : Aside0 (Mine w2 w.heap.size v (bi (sha ps.flatten))) := ⟨hm.lower HF.out.size⟩
      have HF2 : Aside0 (Fr No w w2) := ⟨HF.out.then_ hf⟩
      clear hm hf
      go_wp2_with fail
      go_ret
      exact ⟨v, rfl, HM.out, HF2.out⟩
end Go.Proofs.YtbaeddppihjgfaaDoor.Sg
