/- The walks of the reference's SHA-256. -/
import Derived.Test.YtbaeddppihjgfaaDoorShaTop
namespace Go.Proofs.YtbaeddppihjgfaaDoor.Sg
open Go Go.RowKit Go.Proofs.YtbaeddppihjgfaaDoorW.PrintWords
set_option linter.unusedVariables false
attribute [local go_sem] u_signed i_ones
theorem ofInt_mod (z : Int) : BitVec.ofInt 32 (z % 18446744073709551616) = BitVec.ofInt 32 z := by
  apply BitVec.eq_of_toNat_eq; rw [BitVec.toNat_ofInt, BitVec.toNat_ofInt]; omega
theorem ofInt_or (a b : Int) : BitVec.ofInt 32 (bits .or .i64 a b) = BitVec.ofInt 32 a ||| BitVec.ofInt 32 b := by
  have h : ∀ z : Int, (BitVec.ofInt 64 z).setWidth 32 = BitVec.ofInt 32 z := fun z => by
    apply BitVec.eq_of_toNat_eq; rw [BitVec.toNat_setWidth, BitVec.toNat_ofInt, BitVec.toNat_ofInt]; omega
  show BitVec.ofInt 32 (IntKind.i64.wrap ((BitVec.ofInt 64 a ||| BitVec.ofInt 64 b).toNat : Int)) = _
  rw [show IntKind.i64.wrap ((BitVec.ofInt 64 a ||| BitVec.ofInt 64 b).toNat : Int) = wrap64 ((BitVec.ofInt 64 a ||| BitVec.ofInt 64 b).toNat : Int) from by rw [IntKind.wrap_i64]; unfold wrap64; omega, ofInt_wrap, ← h a, ← h b, ← BitVec.setWidth_or]
  apply BitVec.eq_of_toNat_eq
  rw [BitVec.toNat_ofInt, BitVec.toNat_setWidth]
  omega
theorem turned_val (x : W) (n m : Nat) : BitVec.ofInt 32 (bits .or .i64 (un x / 2 ^ n) (wrap64 (un x * 2 ^ m))) = x >>> n ||| x <<< m := by
  rw [ofInt_or, u_shr, ofInt_un]
  congr 1
  rw [ofInt_wrap]
  apply BitVec.eq_of_toNat_eq
  rw [BitVec.toNat_shiftLeft, Nat.shiftLeft_eq, BitVec.toNat_ofInt]
  unfold un
  have e : ((x.toNat : Int) * 2 ^ m) = ((x.toNat * 2 ^ m : Nat) : Int) := by push_cast; rfl
  rw [e]
  omega
set_option maxRecDepth 100000 in
set_option maxHeartbeats 4000000 in
theorem turned_calls (x : W) (n : Nat) (h1 : 1 ≤ n) (h2 : n ≤ 31) (w : World) :
    Calls Tryd.prog 77 #[.int .i64 (un x), .int .i64 (n : Int)] w fun e w' => e = .returned (.int .i64 (un (x >>> n ||| x <<< (32 - n)))) ∧ w' = w.drew := by
  go_enter Tryd.func77, Tryd.ntmps77
  have hn0 : (0 : Int) ≤ (n : Int) := by omega
  have hn1 : (n : Int) ≤ 31 := by omega
  go_wp2_with fail
  go_region
  go_wp2
  go_ret
  exact ⟨congrArg (fun z => Ending.returned (.int .i64 (un z))) (turned_val x n (32 - n)), rfl⟩
theorem refPad_next (l : List UInt8) (k : Nat) : bi (l ++ 128 :: List.replicate k 0) ++ [0] = bi (l ++ 128 :: List.replicate (k + 1) 0) := by
  rw [List.replicate_succ' (n := k)]
  simp [bi]
theorem refPad_len (l : List UInt8) (k q : Nat) (hq : l.length + (k + 1) = q) : (l ++ (128 : UInt8) :: List.replicate k 0).length = q := by simp; omega
theorem refPad_step (l : List UInt8) (n j p : Nat) (hj : j < 8) (hp : 7 - j = p) : bi (l ++ (128 :: List.replicate (zerosOf n) 0 ++ (len8 n).take j)) ++ [((lenB n p).toNat : Int)] = bi (l ++ (128 :: List.replicate (zerosOf n) 0 ++ (len8 n).take (j + 1))) := by
  rw [bi_append, List.append_assoc, pad_step n j p hj hp, ← bi_append]
set_option maxRecDepth 100000 in
set_option maxHeartbeats 4000000 in
theorem padded_calls (l : List UInt8) (A : Option Addr) (c : Nat) (w : World) (hr : Rb w A l) (hl : l.length ≤ 140737488352256) :
    Calls Tryd.prog 55 #[.slice A l.length c] w fun e w' => ∃ v, e = .returned v ∧ Mine w' w.heap.size v (bi (l ++ padOf l.length)) ∧ Fr No w w' := by
  have HR := Aside0.mk hr
  have HLE := Aside0.mk hl
  clear hr
  go_enter Tryd.func55, Tryd.ntmps55
  go_wp2
  go_loopw [3, 4] (fun v i wr => ∃ k : Nat, k ≤ l.length ∧ i = .int .i64 k ∧ Aside0 (Mine wr w.heap.size v (bi (l.take k))) ∧ Aside0 (Fr No w wr)) (fun _ i _ => l.length - (intOf i).toNat)
  case atStart => exact ⟨0, by omega, rfl, ⟨Mine.nil _ _⟩, ⟨Fr.refl _ _⟩⟩
  case round =>
    obtain ⟨k, hk, rfl, HM, HF⟩ := hrel
    by_cases hlt : k < l.length
    · obtain ⟨ad, hA, hcell⟩ := C_byte (C_fr HR.out HF.out) k hlt
      subst hA
      have HT : Aside0 (bi (l.take k) ++ [un (b2w l[k])] = bi (l.take (k + 1))) := ⟨by rw [List.take_succ_eq_append_getElem hlt, bi_append, un_b2w]; rfl⟩
      have HLL : Aside0 ((bi (l.take k)).length + 1 ≤ 140737488355328) := ⟨by have := HLE.out; rw [bi_length, List.length_take]; omega⟩
      go_wp2_with (at_builtin; refine app_byte rfl _ _ 22 rfl Tryd.underlying22 infoU8 _ (bi (l.take k)) (un (b2w l[k])) rfl rfl HM.out HF.out HLL.out ?_; intro v1 w1 hm hf hg)
      rw [HT.out] at hm
      exact ⟨⟨k + 1, by omega, by go_num, ⟨hm⟩, ⟨hf⟩⟩, by simp [intOf]; omega⟩
    · obtain rfl : k = l.length := by omega
      rw [List.take_length] at HM
      have HLL : Aside0 ((bi l).length + 1 ≤ 140737488355328) := ⟨by have := HLE.out; rw [bi_length]; omega⟩
      go_wp2_with (at_builtin; refine app_byte rfl _ _ 22 rfl Tryd.underlying22 infoU8 _ (bi l) 128 rfl rfl HM.out HF.out HLL.out ?_; intro v1 w1 hm hf hg)
      have HM1 : Aside0 (Mine w1 w.heap.size v1 (bi (l ++ 128 :: List.replicate 0 0))) := ⟨by rw [bi_append]; exact hm⟩
      have HF1 := Aside0.mk hf
      clear hm hf hg HM HF HLL
      go_loopw [3] (fun v wr => ∃ k : Nat, k ≤ zerosOf l.length ∧ Aside0 (Mine wr w.heap.size v (bi (l ++ 128 :: List.replicate k 0))) ∧ Aside0 (Fr No w wr)) (fun v _ => l.length + 64 - lenOf v)
      case atStart => exact ⟨0, Nat.zero_le _, HM1, HF1⟩
      case round =>
        clear HM1 HF1
        obtain ⟨k, hk, HM, HF⟩ := hrel
        obtain ⟨D, cd, hD, hcd, hrd⟩ := HM.out.reads
        obtain ⟨q, hq⟩ : ∃ q : Nat, l.length + (k + 1) = q := ⟨_, rfl⟩
        have hlq := refPad_len l k q hq
        rw [hlq] at hD hcd
        subst hD
        obtain ⟨r, hr⟩ : ∃ r : Nat, q % 64 = r := ⟨_, rfl⟩
        have hr56 := zeros_iff (q := k + 1) (r := r) hk rfl (by rw [hq]; exact hr)
        have hmod : (q : Int) % 64 = (r : Int) := by omega
        have HQ := Aside0.mk hq
        have HK56 := Aside0.mk hr56
        have hq2 : q ≤ 140737488352368 := by have := zeros_lt l.length; omega
        clear hq hr hr56
        by_cases h56 : r = 56
        · have hkz := HK56.out.1 h56
          have hmod56 : (q : Int) % 64 = 56 := by rw [hmod, h56]; rfl
          have HKZ := Aside0.mk hkz
          clear hmod h56 hkz HK56
          go_wp2
          have HM1 : Aside0 (Mine wr w.heap.size (.slice D q cd) (bi (l ++ (128 :: List.replicate (zerosOf l.length) 0 ++ (len8 l.length).take 0)))) := ⟨by have := HM.out; rw [HKZ.out] at this; simpa using this⟩
          clear hmod56 HM HKZ HQ hlq hcd hk hrd hq2
          go_loopw [3, 5] (fun v i wr => ∃ j : Nat, j ≤ 8 ∧ i = .int .i64 ((7 : Int) - (j : Int)) ∧ Aside0 (Mine wr w.heap.size v (bi (l ++ (128 :: List.replicate (zerosOf l.length) 0 ++ (len8 l.length).take j)))) ∧ Aside0 (Fr No w wr)) (fun _ i _ => (intOf i + 1).toNat)
          case atStart => exact ⟨0, by omega, rfl, HM1, HF⟩
          case round =>
            clear HM1 HF
            obtain ⟨j, hj, rfl, HM, HF⟩ := hrel
            by_cases hj8 : j < 8
            · obtain ⟨p, hp⟩ : ∃ p : Nat, 7 - j = p := ⟨_, rfl⟩
              have hpi : (7 : Int) - (j : Int) = (p : Int) := by omega
              have hp7 : p ≤ 7 := by omega
              rw [hpi]
              have HBY : Aside0 (8 * (l.length : Int) / 2 ^ (8 * p) % 256 = ((lenB l.length p).toNat : Int)) := ⟨by have := byte_len l.length p _ rfl; push_cast at this; exact this⟩
              have HLL : Aside0 ((bi (l ++ (128 :: List.replicate (zerosOf l.length) 0 ++ (len8 l.length).take j))).length + 1 ≤ 140737488355328) := ⟨by
                have hz := zeros_lt l.length
                rw [bi_length]
                simp [len8]
                omega⟩
              have HPS := Aside0.mk (refPad_step l l.length j p hj8 hp)
              have HJ := Aside0.mk (And.intro hj8 hp)
              clear hj8 hp hj hpi
              go_wp2_with (at_builtin; refine app_byte rfl _ _ 22 rfl Tryd.underlying22 infoU8 _ (bi (l ++ (128 :: List.replicate (zerosOf l.length) 0 ++ (len8 l.length).take j))) (8 * (l.length : Int) / 2 ^ (8 * p) % 256) rfl rfl HM.out HF.out HLL.out ?_; intro v1 w1 hm hf hg)
              rw [HBY.out, HPS.out] at hm
              refine ⟨⟨j + 1, HJ.out.1, ?_, ⟨hm⟩, ⟨hf⟩⟩, ?_⟩
              · have := HJ.out; congr 1; omega
              · simp only [intOf]; omega
            · obtain rfl : j = 8 := by omega
              have HMP : Aside0 (Mine wr w.heap.size u3 (bi (l ++ padOf l.length))) := HM
              go_wp2
              go_ret
              exact ⟨_, rfl, HMP.out, HF.out⟩
        · have hkz : k < zerosOf l.length := by have := mt HK56.out.2 h56; omega
          have hb56 : ((r : Int) == 56) = false := beq_eq_false_iff_ne.2 (by omega)
          have HLL : Aside0 ((bi (l ++ 128 :: List.replicate k 0)).length + 1 ≤ 140737488355328) := ⟨by rw [bi_length, hlq]; omega⟩
          have HKZ := Aside0.mk hkz
          clear HK56 h56 hkz hlq
          go_wp2_with (at_builtin; refine app_byte rfl _ _ 22 rfl Tryd.underlying22 infoU8 _ (bi (l ++ 128 :: List.replicate k 0)) 0 rfl rfl HM.out HF.out HLL.out ?_; intro v1 w1 hm hf hg)
          rw [refPad_next] at hm
          obtain ⟨D2, cd2, hD2, hcd2, _⟩ := hm.reads
          have hl2 := refPad_len l (k + 1) (q + 1) (by have := HQ.out; omega)
          rw [hl2] at hD2
          subst hD2
          exact ⟨⟨k + 1, HKZ.out, ⟨hm⟩, ⟨hf⟩⟩, by simp only [lenOf]; have := zeros_lt l.length; have := HKZ.out; have := HQ.out; omega⟩
end Go.Proofs.YtbaeddppihjgfaaDoor.Sg
