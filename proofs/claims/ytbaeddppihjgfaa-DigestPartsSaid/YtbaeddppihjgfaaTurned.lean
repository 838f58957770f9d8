/- The walk of turned: a list of bytes comes back, not twice as long. -/
import Derived.Test.YtbaeddppihjgfaaPartsC
namespace Go.Proofs.Ytbaeddppihjgfaa.Sg
open Go Go.RowKit Go.Proofs.YtbaeddppihjgfaaW.PrintWords
set_option linter.unusedVariables false
theorem xor_byte (b : UInt8) (v : Int) : ∃ b2 : UInt8, bits .xor .u8 (un (b2w b)) (v % 256) = (b2.toNat : Int) := by
  have h : ∃ z : Int, bits .xor .u8 (un (b2w b)) (v % 256) = IntKind.u8.wrap z := ⟨_, rfl⟩
  obtain ⟨z, hz⟩ := h
  refine ⟨UInt8.ofNat (z % 256).toNat, ?_⟩
  rw [hz, IntKind.wrap_u8, UInt8.toNat_ofNat']
  omega
def TurnAt (w : World) (g : Nat) (k a v : Int) : Prop := w.heap[g]? = some (.cells #[.int .i64 k, .int .i64 a, .int .i64 v] 46 (0, 0))
theorem TurnAt.cells {w : World} {g : Nat} {k a v : Int} (h : TurnAt w g k a v) : w.cell? ⟨g, 0, none⟩ = some (.int .i64 k) ∧ w.cell? ⟨g, 1, none⟩ = some (.int .i64 a) ∧ w.cell? ⟨g, 2, none⟩ = some (.int .i64 v) :=
  ⟨cell_of_row _ g 0 _ _ _ h, cell_of_row _ g 1 _ _ _ h, cell_of_row _ g 2 _ _ _ h⟩
theorem TurnAt.fr {S : Nat → Prop} {w w1 : World} {g : Nat} {k a v : Int} (h : TurnAt w g k a v) (hf : Fr S w w1) (hn : ¬ S g) : TurnAt w1 g k a v := hf.heap h hn
theorem bi_snoc (m : List UInt8) (b : UInt8) : bi m ++ [un (b2w b)] = bi (m ++ [b]) := by rw [bi_append, un_b2w]; rfl
set_option maxRecDepth 100000 in
set_option maxHeartbeats 8000000 in
theorem turned_calls (l : List UInt8) (k0 a0 v0 : Int) (A : Option Addr) (c : Nat) (w : World) (hr : Rb w A l) (hl : l.length ≤ 35184372088832) :
    Calls Try.prog 27 #[.slice A l.length c, .agg #[.int .i64 k0, .int .i64 a0, .int .i64 v0]] w fun e w' => ∃ v m, e = .returned v ∧ Mine w' w.heap.size v (bi m) ∧ m.length ≤ 2 * l.length ∧ Fr No w w' := by
  have HR := Aside0.mk hr
  clear hr
  obtain ⟨W1, hW1, ht1, hf1⟩ : ∃ W1, W1 = w.alloc (.cells #[.int .i64 k0, .int .i64 a0, .int .i64 v0] 46) ∧ TurnAt W1 w.heap.size k0 a0 v0 ∧ Fr No w W1 := ⟨_, rfl, heap_alloc_new w _, (Fr.refl No w).alloc _⟩
  have HT1 := Aside0.mk ht1; have HF1 := Aside0.mk hf1; have HW1 := Aside0.mk hW1
  obtain ⟨_, c1, _⟩ := ht1.cells
  rw [hW1] at c1
  clear ht1 hf1 hW1
  go_enter Try.func27, Try.ntmps27
  by_cases hz : l.length = 0
  · have hzi : ((l.length : Int) == 0) = true := by rw [hz]; rfl
    have HW2 : Aside0 (Fr No w (w.alloc (.cells #[.int .i64 k0, .int .i64 a0, .int .i64 v0] 46))) := ⟨(Fr.refl No w).alloc _⟩
    clear hz
    go_wp2_with fail
    go_ret
    exact ⟨.slice none 0 0, [], rfl, Mine.nil _ _, by simp, HW2.out⟩
  · have hzi : ((l.length : Int) == 0) = false := beq_eq_false_iff_ne.2 (by omega)
    have hpos : (0 : Int) < (l.length : Int) := by omega
    have hnz : ¬ ((l.length : Int) = 0) := by omega
    go_upto_if 17 with fail
    rw [← HW1.out]
    clear c1 HW1
    go_cut [5] (fun s5 wx => wx = W1 ∧ ∃ p : Nat, p < l.length ∧ s5 = .int .i64 p)
    case first =>
      obtain ⟨q, hq⟩ : ∃ q : Int, a0.tmod (l.length : Int) = q := ⟨_, rfl⟩
      have hq1 : -(l.length : Int) < q := by subst hq; exact Int.lt_tmod_of_pos a0 hpos
      have hq2 : q < (l.length : Int) := by subst hq; exact Int.tmod_lt_of_pos _ hpos
      rw [hq]
      clear hq
      by_cases h0 : q < 0
      · go_wp2_with fail
        go_meet
        exact ⟨rfl, (q + l.length).toNat, by omega, by congr 1; omega⟩
      · go_wp2_with fail
        go_meet
        exact ⟨rfl, q.toNat, by omega, by congr 1; omega⟩
    case rest =>
      obtain ⟨hwc, p, hp, rfl⟩ := hcut
      rw [hwc]
      clear hwc
      go_wp2_with fail
      go_loopw [6, 7] (fun v i wr => ∃ (j : Nat) (m : List UInt8), j ≤ l.length ∧ i = .int .i64 j ∧ Aside0 (m.length ≤ 2 * j) ∧ Aside0 (Mine wr W1.heap.size v (bi m)) ∧ Aside0 (Fr No W1 wr)) (fun _ i _ => l.length - (intOf i).toNat)
      case atStart => exact ⟨0, [], by omega, rfl, ⟨by simp⟩, ⟨Mine.nil _ _⟩, ⟨Fr.refl _ _⟩⟩
      case round =>
        obtain ⟨j, m, hj, rfl, HL, HM, HF⟩ := hrel
        by_cases hlt : j < l.length
        · obtain ⟨ad, hA, hcw⟩ := C_byte HR.out j hlt
          subst hA
          have HCW := Aside0.mk hcw
          have hcell := (HF1.out.then_ HF.out).cell hcw id
          clear hcw
          obtain ⟨ck, _, cv⟩ := (HT1.out.fr HF.out id).cells
          generalize l[j] = b at *
          have HLL : Aside0 ((bi m).length + 1 ≤ 140737488355328) := ⟨by have := HL.out; rw [bi_length]; omega⟩
          have HLL2 : Aside0 ((bi (m ++ [b])).length + 1 ≤ 140737488355328) := ⟨by have := HL.out; rw [bi_length, List.length_append]; simp; omega⟩
          have hj0 : (0 : Int) ≤ (j : Int) := by omega
          have hj1 : (j : Int) < (l.length : Int) := by omega
          by_cases e : j = p
          · have heq : ((j : Int) == (p : Int)) = true := by rw [e]; exact beq_self_eq_true _
            have hge : (p : Int) ≤ (j : Int) := by omega
            clear e
            by_cases h1 : k0 = 1
            · subst h1
              go_wp2_with fail
              exact ⟨⟨j + 1, m, by omega, by go_num, ⟨by have := HL.out; omega⟩, HM, HF⟩, by simp [intOf]; omega⟩
            · have hb1 : (k0 == 1) = false := beq_eq_false_iff_ne.2 h1
              by_cases h2 : k0 = 2
              · subst h2
                go_wp2_with (first
                  | (at_builtin; refine app_byte (w0 := W1) rfl (.tmp 53) (.tmp 58) 25 rfl Try.underlying25 infoU8 u6 (bi m) (un (b2w b)) rfl rfl HM.out HF.out HLL.out ?_
                     intro v1 w1 hm1 hf1 hg1
                     rw [bi_snoc] at hm1
                     have HM1 := Aside0.mk hm1; have HF2 := Aside0.mk hf1
                     have hcell1 : w1.cell? (ad.add j) = some (.int .u8 (un (b2w b))) := (HF1.out.then_ hf1).cell HCW.out id
                     clear hm1 hf1 hg1)
                  | (at_builtin; refine app_byte (w0 := W1) rfl (.tmp 60) (.tmp 65) 25 rfl Try.underlying25 infoU8 v1 (bi (m ++ [b])) (un (b2w b)) rfl rfl HM1.out HF2.out HLL2.out ?_
                     intro v2 w2 hm2 hf2 hg2))
                rw [bi_snoc] at hm2
                exact ⟨⟨j + 1, m ++ [b] ++ [b], by omega, by go_num, ⟨by have := HL.out; rw [List.length_append, List.length_append]; simp; omega⟩, ⟨hm2⟩, ⟨hf2⟩⟩, by simp [intOf]; omega⟩
              · have hb2 : (k0 == 2) = false := beq_eq_false_iff_ne.2 h2
                by_cases h3 : k0 = 3
                · subst h3
                  go_wp2_with fail
                  exact ⟨⟨j + 1, m, by omega, by go_num, ⟨by have := HL.out; omega⟩, HM, HF⟩, by simp [intOf]; omega⟩
                · have hb3 : (k0 == 3) = false := beq_eq_false_iff_ne.2 h3
                  by_cases h0 : k0 = 0
                  · subst h0
                    obtain ⟨b2, hb2x⟩ := xor_byte b v0
                    have HB2 := Aside0.mk hb2x
                    clear hb2x
                    have HMd : Aside0 (Mine wr.drew W1.heap.size u6 (bi m)) := ⟨HM.out.fr ((Fr.refl No wr).drew) (fun _ _ => id)⟩
                    have HFd : Aside0 (Fr No W1 wr.drew) := ⟨HF.out.drew⟩
                    have HKS : Aside0 (∀ w', Fr No W1 w' → w'.cell? (ad.add j) = some (.int .u8 (un (b2w b))) ∧ w'.cell? ⟨w.heap.size, 2, none⟩ = some (.int .i64 v0)) := ⟨fun w' hf => ⟨(HF1.out.then_ hf).cell HCW.out id, (HT1.out.fr hf id).cells.2.2⟩⟩
                    go_wp2_with fail
                    go_region_held3 (fun w' => w'.cell? (ad.add j) = some (.int .u8 (un (b2w b))) ∧ w'.cell? ⟨w.heap.size, 2, none⟩ = some (.int .i64 v0)) (first | exact HKS.out _ hf1 | exact HKS.out _ HFd.out | go_keep)
                      ((refine app_byte_step (w0 := W1) (by rfl) (.tmp 85) (.tmp 94) 25 (by rfl) Try.underlying25 infoU8 u6 (bi m) (bits .xor .u8 (un (b2w b)) (v0 % 256)) (by rfl) (by rfl) HMd.out HFd.out HLL.out ?_; intro v1 w1 hm1 hf1 hg1))
                    all_goals
                      trace_state
                      go_wp2
                      rw [HB2.out] at hm1
                      exact ⟨⟨j + 1, m ++ [b2], by omega, by go_num, ⟨by have := HL.out; rw [List.length_append]; simp; omega⟩, ⟨by rw [bi_append]; exact hm1⟩, ⟨hf1⟩⟩, by simp [intOf]; omega⟩
                  · have hb0 : (k0 == 0) = false := beq_eq_false_iff_ne.2 h0
                    go_wp2_with (at_builtin; refine app_byte (w0 := W1) rfl (.tmp 28) (.tmp 33) 25 rfl Try.underlying25 infoU8 u6 (bi m) (un (b2w b)) rfl rfl HM.out HF.out HLL.out ?_; intro v1 w1 hm1 hf1 hg1)
                    rw [bi_snoc] at hm1
                    exact ⟨⟨j + 1, m ++ [b], by omega, by go_num, ⟨by have := HL.out; rw [List.length_append]; simp; omega⟩, ⟨hm1⟩, ⟨hf1⟩⟩, by simp [intOf]; omega⟩
          · have heq : ((j : Int) == (p : Int)) = false := beq_eq_false_iff_ne.2 (by omega)
            clear e
            by_cases hge : p ≤ j
            · have hgei : (p : Int) ≤ (j : Int) := by omega
              by_cases h3 : k0 = 3
              · subst h3
                go_wp2_with fail
                exact ⟨⟨j + 1, m, by omega, by go_num, ⟨by have := HL.out; omega⟩, HM, HF⟩, by simp [intOf]; omega⟩
              · have hb3 : (k0 == 3) = false := beq_eq_false_iff_ne.2 h3
                go_wp2_with (at_builtin; refine app_byte (w0 := W1) rfl (.tmp 28) (.tmp 33) 25 rfl Try.underlying25 infoU8 u6 (bi m) (un (b2w b)) rfl rfl HM.out HF.out HLL.out ?_; intro v1 w1 hm1 hf1 hg1)
                rw [bi_snoc] at hm1
                exact ⟨⟨j + 1, m ++ [b], by omega, by go_num, ⟨by have := HL.out; rw [List.length_append]; simp; omega⟩, ⟨hm1⟩, ⟨hf1⟩⟩, by simp [intOf]; omega⟩
            · have hgei : ¬ ((p : Int) ≤ (j : Int)) := by omega
              go_wp2_with (at_builtin; refine app_byte (w0 := W1) rfl (.tmp 28) (.tmp 33) 25 rfl Try.underlying25 infoU8 u6 (bi m) (un (b2w b)) rfl rfl HM.out HF.out HLL.out ?_; intro v1 w1 hm1 hf1 hg1)
              rw [bi_snoc] at hm1
              exact ⟨⟨j + 1, m ++ [b], by omega, by go_num, ⟨by have := HL.out; rw [List.length_append]; simp; omega⟩, ⟨hm1⟩, ⟨hf1⟩⟩, by simp [intOf]; omega⟩
        · obtain rfl : j = l.length := by omega
          have HME : Aside0 (Mine wr w.heap.size u6 (bi m)) := ⟨HM.out.lower HF1.out.size⟩
          go_wp2_with fail
          go_ret
          exact ⟨_, m, rfl, HME.out, HL.out, HF1.out.then_ HF.out⟩
end Go.Proofs.Ytbaeddppihjgfaa.Sg
