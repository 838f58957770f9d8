/- The walk of the reference's Sum. -/
import Derived.Test.YtbaeddppihjgfaaDoorShaRefB
namespace Go.Proofs.YtbaeddppihjgfaaDoor.Sg
open Go Go.RowKit Go.Proofs.YtbaeddppihjgfaaDoorW.PrintWords
set_option linter.unusedVariables false
attribute [local go_sem] u_signed i_ones
theorem outB (x : W) (j p : Nat) (hj : j < 4) (hp : 3 - j = p) : bi ((outW x).take j) ++ [un x / 2 ^ (8 * p) % 256] = bi ((outW x).take (j + 1)) := by
  subst hp
  have b0 : un x / (16777216 : Int) % (256 : Int) = ((UInt8.ofNat (x >>> 24).toNat).toNat : Int) := by rw [u_div16777216]; unfold un; rw [UInt8.toNat_ofNat']; omega
  have b1 : un x / (65536 : Int) % (256 : Int) = ((UInt8.ofNat (x >>> 16).toNat).toNat : Int) := by rw [u_div65536]; unfold un; rw [UInt8.toNat_ofNat']; omega
  have b2 : un x / (256 : Int) % (256 : Int) = ((UInt8.ofNat (x >>> 8).toNat).toNat : Int) := by rw [u_div256]; unfold un; rw [UInt8.toNat_ofNat']; omega
  have b3 : un x / (1 : Int) % (256 : Int) = ((UInt8.ofNat x.toNat).toNat : Int) := by unfold un; rw [UInt8.toNat_ofNat']; omega
  match j, hj with
  | 0, _ => exact congrArg (fun z => [z]) b0
  | 1, _ => exact congrArg (fun z => [_, z]) b1
  | 2, _ => exact congrArg (fun z => [_, _, z]) b2
  | 3, _ => exact congrArg (fun z => [_, _, _, z]) b3
theorem outN (q : S8) (k : Nat) (hk : k < 8) (x : W) (hx : q.list.getD k 0 = x) : (q.list.take k).flatMap outW ++ (outW x).take 4 = (q.list.take (k + 1)).flatMap outW := by
  have := out_take q k hk x hx
  rw [← bi_append] at this
  exact bi_inj this
theorem outT (q : S8) (k j : Nat) (hk : k < 8) (x : W) (hx : q.list.getD k 0 = x) (hj : j ≤ 4) : (bi ((q.list.take k).flatMap outW ++ (outW x).take j)).length + 1 ≤ 140737488355328 := by
  have h1 := out_len q (k + 1) (by omega)
  rw [← outN q k hk x hx] at h1
  rw [bi_length, List.length_append, List.length_take] at *
  have : (outW x).length = 4 := rfl
  omega
theorem init8 : state8i S8.init = #[.int .i64 1779033703, .int .i64 3144134277, .int .i64 1013904242, .int .i64 2773480762, .int .i64 1359893119, .int .i64 2600822924, .int .i64 528734635, .int .i64 1541459225] := by
  simp [state8i, S8.init, un]
theorem Mine.rb {w : World} {base cd : Nat} {D : Option Addr} {l : List UInt8} (h : Mine w base (.slice D l.length cd) (bi l)) : Rb w D l := by
  obtain ⟨A', c', e, _, hr⟩ := h.reads
  obtain ⟨rfl, _, _⟩ := Value.slice.inj e
  exact hr
theorem wordsA_size (m : Nat → W) : (wordsA m).size = 64 := by simp [wordsA]
theorem wordsA_one (m : Nat → W) : (wordsA m).all (·.oneCell') = true := by simp [wordsA, Value.oneCell']
set_option maxRecDepth 100000 in
set_option maxHeartbeats 4000000 in
theorem refSumX_calls (l : List UInt8) (A : Option Addr) (c : Nat) (w : World) (hr : Rb w A l) (hl : l.length ≤ 140737488352256) (hK : KeysAt w) :
    Calls Tryd.prog 24 #[.slice A l.length c] w fun e w' => ∃ v, e = .returned v ∧ Mine w' w.heap.size v (bi (sha l)) ∧ Fr No w w' := by
  have HR := Aside0.mk hr; have HK := Aside0.mk hK; have HL := Aside0.mk hl
  clear hr hK hl
  go_enter Tryd.func24, Tryd.ntmps24
  obtain ⟨W0, hW0, h1, h2, h3⟩ : ∃ W0, W0 = w.alloc (.cells (state8i S8.init) 79) ∧ St8i W0 w.heap.size S8.init ∧ Fr No w W0 ∧ W0.heap.size = w.heap.size + 1 := ⟨_, rfl, heap_alloc_new w _, (Fr.refl No w).alloc _, by simp⟩
  have e8 : state8i S8.init = #[.int .i64 1779033703, .int .i64 3144134277, .int .i64 1013904242, .int .i64 2773480762, .int .i64 1359893119, .int .i64 2600822924, .int .i64 528734635, .int .i64 1541459225] := init8
  rw [e8] at hW0
  replace hW0 := Aside0.mk hW0
  have HS := Aside0.mk h1; have HF := Aside0.mk h2; have HZ0 := Aside0.mk h3
  clear h1 h2 h3 e8
  go_wp2_with fail
  rw [← hW0.out]
  refine (padded_calls l A c W0 (C_fr HR.out HF.out) HL.out).mono ?_
  rintro e w1 ⟨v, rfl, hm, hf⟩
  obtain ⟨D, cd, rfl, hcd, hrd⟩ := hm.reads
  have HS1 : Aside0 (St8i w1 w.heap.size S8.init) := ⟨hf.heap HS.out id⟩
  have HF1 : Aside0 (Fr No w w1) := ⟨HF.out.then_ hf⟩
  have HPM : Aside0 ((l ++ padOf l.length).length % 64 = 0) := ⟨by rw [List.length_append]; exact pad_mod _⟩
  have HPL : Aside0 ((l ++ padOf l.length).length ≤ 140737488353280) := ⟨by rw [List.length_append, padOf_length]; have := zeros_lt l.length; have := HL.out; omega⟩
  have HSH : Aside0 (sha l = outS (absorb S8.init (l ++ padOf l.length))) := ⟨rfl⟩
  have HRD := Aside0.mk hm
  clear hm hf HS HF hW0 hrd
  generalize l ++ padOf l.length = P at *
  have hpl := HPL.out
  go_wp2_with fail
  go_loopw [5] (fun i wr => ∃ (k : Nat) (s : S8), 64 * k ≤ P.length ∧ i = .int .i64 (64 * k : Nat) ∧ Aside0 (St8i wr w.heap.size s) ∧ Aside0 (absorb s (P.drop (64 * k)) = absorb S8.init P) ∧ Aside0 (Fr No w wr) ∧ Aside0 (Mine wr W0.heap.size (.slice D P.length cd) (bi P))) (fun i _ => P.length - (intOf i).toNat)
  case atStart => exact ⟨0, S8.init, by omega, rfl, HS1, ⟨rfl⟩, HF1, HRD⟩
  case round =>
    clear HS1 HF1 HRD
    obtain ⟨k, s, hk, rfl, HS, HA, HF, HRD⟩ := hrel
    obtain ⟨q, hq⟩ : ∃ q : Nat, 64 * k = q := ⟨_, rfl⟩
    rw [hq] at hk HA ⊢
    by_cases hlt : q < P.length
    · have hle : q + 64 ≤ P.length := by have := HPM.out; omega
      go_wp2_with fail
      refine (refWords_calls P q hle D cd wr HRD.out.rb hpl).mono ?_
      rintro e w2 ⟨cs, rfl, hcs, hf⟩
      have HS2 : Aside0 (St8i w2 w.heap.size s) := ⟨hf.heap HS.out id⟩
      have HCS : Aside0 (cs = wordsA (blockW (P.drop q))) := ⟨hcs⟩
      have HCZ : Aside0 (cs.size = 64) := ⟨by rw [hcs]; exact wordsA_size _⟩
      have HCO : Aside0 (cs.all (·.oneCell') = true) := ⟨by rw [hcs]; exact wordsA_one _⟩
      have HF2 : Aside0 (Fr No w w2) := ⟨HF.out.then_ hf⟩
      have HR2 : Aside0 (Mine w2 W0.heap.size (.slice D P.length cd) (bi P)) := ⟨HRD.out.fr hf (fun _ _ => id)⟩
      have HZA : Aside0 ((w2.alloc (.cells zero64 80)).heap[w2.heap.size]? = some (.cells zero64 80 (0, 0))) := ⟨heap_alloc_new w2 _⟩
      clear hcs hf HS HF HRD
      go_wp2_with (first
        | (refine wpList_store_row rfl _ _ _ rfl w2.heap.size cs rfl rfl 80 zero64 HZA.out (by rw [HCZ.out]; rfl) (by rw [HCZ.out]; rfl) HCO.out ?_
           have k1 : ((w2.alloc (.cells zero64 80)).setRow w2.heap.size cs).heap[w2.heap.size]? = some (.cells cs 80 (0, 0)) := setRow_heap _ _ _ _ _ _ HZA.out
           have k2 : Fr No w2 ((w2.alloc (.cells zero64 80)).setRow w2.heap.size cs) := ((Fr.refl No w2).alloc _).setRow (.inr (Nat.le_refl _)) cs
           unfold zero64 at k1 k2
           generalize World.setRow _ _ _ = W3 at k1 k2 ⊢
           have HT3 := Aside0.mk k1
           have HS3 : Aside0 (W3.heap[w.heap.size]? = some (.cells (state8i s) 79 (0, 0))) := ⟨k2.heap HS2.out id⟩
           have HF3 : Aside0 (Fr No w W3) := ⟨HF2.out.then_ k2⟩
           have HR3 : Aside0 (Mine W3 W0.heap.size (.slice D P.length cd) (bi P)) := ⟨HR2.out.fr k2 (fun _ _ => id)⟩
           clear k1 k2 HS2 HF2 HR2)
        | refine wpList_load_row rfl _ _ rfl w.heap.size rfl 79 (state8i s) _ (.array 8 3) HS3.out rfl rfl rfl ?_
        | refine wpList_load_row rfl _ _ rfl w2.heap.size rfl 80 cs _ (.array 64 3) HT3.out rfl rfl (by rw [HCZ.out]; rfl) ?_)
      obtain rfl := HCS.out
      refine (refBlock_calls s _ W3 (HK.out.fr HF3.out id)).mono ?_
      rintro e w4 ⟨rfl, hf⟩
      have HS4 : Aside0 (w4.heap[w.heap.size]? = some (.cells (state8i s) 79 (0, 0))) := ⟨hf.heap HS3.out id⟩
      have HF4 : Aside0 (Fr No w w4) := ⟨HF3.out.then_ hf⟩
      have HR4 : Aside0 (Mine w4 W0.heap.size (.slice D P.length cd) (bi P)) := ⟨HR3.out.fr hf (fun _ _ => id)⟩
      have HA4 : Aside0 (absorb (comp s (blockW (P.drop q))) (P.drop (q + 64)) = absorb S8.init P) := ⟨by
        rw [← HA.out, absorb_long s (P.drop q) (by rw [List.length_drop]; omega), List.drop_drop]⟩
      clear hf HS3 HF3 HR3 HT3 HCZ HCO HCS HA
      generalize comp s (blockW (P.drop q)) = s2 at *
      have hone : (state8i s2).all (·.oneCell') = true := by simp [state8i, Value.oneCell']
      have HONE := Aside0.mk hone
      have HSZ : Aside0 ((state8i s2).size = 8) := ⟨rfl⟩
      have HSZ1 : Aside0 ((state8i s).size = 8) := ⟨rfl⟩
      have HS5 : Aside0 (St8i (w4.setRow w.heap.size (state8i s2)) w.heap.size s2) := ⟨setRow_heap _ _ _ _ _ _ HS4.out⟩
      have HW5 : Aside0 (Fr No w (w4.setRow w.heap.size (state8i s2))) := ⟨HF4.out.setRow (.inr (Nat.le_refl _)) _⟩
      have HR5 : Aside0 (Mine (w4.setRow w.heap.size (state8i s2)) W0.heap.size (.slice D P.length cd) (bi P)) := ⟨HR4.out.fr' ((Fr.refl (fun k => k = w.heap.size) w4).setRow (.inl rfl) (state8i s2)) (fun k hk hS => by have := HZ0.out; omega)⟩
      clear hone
      go_wp2_with (refine wpList_store_row rfl _ _ _ rfl w.heap.size (state8i s2) rfl rfl 79 (state8i s) HS4.out (by rw [HSZ.out]; rfl) (by rw [HSZ.out, HSZ1.out]) HONE.out ?_)
      refine ⟨⟨k + 1, s2, by omega, by go_num, HS5, ⟨by rw [show 64 * (k + 1) = q + 64 by omega]; exact HA4.out⟩, HW5, HR5⟩, by simp [intOf]; omega⟩
    · obtain rfl : q = P.length := by omega
      have hs : s = absorb S8.init P := by rw [← HA.out, List.drop_length, absorb_short _ _ (by simp)]
      have HSH2 : Aside0 (sha l = s.list.flatMap outW) := ⟨by rw [HSH.out, ← hs]; rfl⟩
      clear hs HA HSH HRD HPM HPL
      obtain ⟨wx, rfl⟩ : ∃ wx, wx = wr := ⟨_, rfl⟩
      go_wp2
      go_loopw [7, 8] (fun v i wy => ∃ k : Nat, k ≤ 8 ∧ i = .int .i64 k ∧ Aside0 (Mine wy wx.heap.size v (bi ((s.list.take k).flatMap outW))) ∧ Aside0 (Fr No wx wy)) (fun _ i _ => 8 - (intOf i).toNat)
      case atStart => exact ⟨0, by omega, rfl, ⟨Mine.nil _ _⟩, ⟨Fr.refl _ _⟩⟩
      case round =>
        obtain ⟨k, hk, rfl, HM, HG⟩ := hrel
        by_cases hlt : k < 8
        · obtain ⟨x, hx⟩ : ∃ x : BitVec 32, s.list.getD k 0 = x := ⟨_, rfl⟩
          have hk1 : (k : Int) < 8 := by omega
          go_wp2
          go_loopw [7, 9] (fun v i wz => ∃ j : Nat, j ≤ 4 ∧ i = .int .i64 ((3 : Int) - (j : Int)) ∧ Aside0 (Mine wz wx.heap.size v (bi ((s.list.take k).flatMap outW ++ (outW x).take j))) ∧ Aside0 (Fr No wx wz)) (fun _ i _ => (intOf i + 1).toNat)
          case atStart => exact ⟨0, by omega, rfl, ⟨by simpa using HM.out⟩, HG⟩
          case round =>
            clear HM HG
            obtain ⟨j, hj, rfl, HM, HG⟩ := hrel
            by_cases hj4 : j < 4
            · obtain ⟨p, hp⟩ : ∃ p : Nat, 3 - j = p := ⟨_, rfl⟩
              have hpi : (3 : Int) - (j : Int) = (p : Int) := by omega
              have hp7 : p ≤ 3 := by omega
              rw [hpi]
              have hcx := St8i.cellAt (HG.out.heap HS.out id) hlt
              rw [hx] at hcx
              have HLL := Aside0.mk (outT s k j hlt x hx hj)
              have HPS : Aside0 (bi ((s.list.take k).flatMap outW ++ (outW x).take j) ++ [un x / 2 ^ (8 * p) % 256] = bi ((s.list.take k).flatMap outW ++ (outW x).take (j + 1))) := ⟨by
                rw [bi_append, List.append_assoc, outB x j p hj4 hp, ← bi_append]⟩
              have HJ := Aside0.mk (And.intro hj4 hp)
              have hx0 := un_nonneg x
              have hx1 := un_lt x
              clear hj4 hp hj hpi hx
              go_wp2_with (at_builtin; refine app_byte rfl _ _ 22 rfl Tryd.underlying22 infoU8 _ (bi ((s.list.take k).flatMap outW ++ (outW x).take j)) (un x / 2 ^ (8 * p) % 256) rfl rfl HM.out HG.out HLL.out ?_; intro v1 w1 hm hf hg)
              rw [HPS.out] at hm
              refine ⟨⟨j + 1, HJ.out.1, ?_, ⟨hm⟩, ⟨hf⟩⟩, ?_⟩
              · have := HJ.out; congr 1; omega
              · simp only [intOf]; omega
            · obtain rfl : j = 4 := by omega
              rw [outN s k hlt x hx] at HM
              go_wp2
              exact ⟨⟨k + 1, by omega, by go_num, HM, HG⟩, by simp [intOf]; omega⟩
        · obtain rfl : k = 8 := by omega
          have HMF : Aside0 (Mine wr w.heap.size u7 (bi (sha l))) := ⟨by rw [HSH2.out]; exact HM.out.lower HF.out.size⟩
          go_wp2
          go_ret
          exact ⟨_, rfl, HMF.out, HF.out.then_ HG.out⟩
theorem refSum_calls (l : List UInt8) (A : Option Addr) (c : Nat) (w : World) (hr : Rb w A l) (hl : l.length ≤ 140737488351232) (hK : KeysAt w) :
    Calls Tryd.prog 24 #[.slice A l.length c] w fun e w' => ∃ v, e = .returned v ∧ Mine w' w.heap.size v (bi (sha l)) ∧ Fr No w w' :=
  refSumX_calls l A c w hr (by omega) hK
end Go.Proofs.YtbaeddppihjgfaaDoor.Sg
