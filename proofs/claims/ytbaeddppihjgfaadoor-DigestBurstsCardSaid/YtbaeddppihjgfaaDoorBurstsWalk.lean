/- The walk of the law DigestBursts. -/
import Derived.Test.YtbaeddppihjgfaaDoorCrcNine
import Derived.Test.YtbaeddppihjgfaaDoorCrcLaw
import Derived.Test.YtbaeddppihjgfaaDoorRoom
import Derived.Deep.DeepCutAuto
import Derived.Deep.CutBlock
import Derived.BigRegion
namespace Go.Proofs.YtbaeddppihjgfaaDoor.Sg
open Go Go.RowKit Go.Proofs.YtbaeddppihjgfaaDoorW.PrintWords
set_option linter.unusedVariables false
/-- The list's row, its numbers known: what the loop holds. -/
def Row8 (w : World) (base : Nat) (v : Value) (l : List UInt8) : Prop := w.ownsRow base 5 1 v l.length (nums .u8 (bi l))
theorem Mine.row8 {w : World} {base : Nat} {v : Value} {l : List UInt8} (h : Mine w base v (bi l)) : Row8 w base v l := by
  have := Kd.own_of_R h
  rw [bi_length] at this
  exact this
theorem Row8.mine {w : World} {base : Nat} {v : Value} {l : List UInt8} (h : Row8 w base v l) : Mine w base v (bi l) :=
  Kd.R_of_own (enc := Value.int .u8) (by rw [bi_length]; exact h) (fun _ _ => trivial)
def flipAt (x : UInt8) (q : Nat) : UInt8 := UInt8.ofNat (x.toNat ^^^ 2 ^ q)
theorem flipAt_toNat (x : UInt8) (q : Nat) (hq : q < 8) : (flipAt x q).toNat = x.toNat ^^^ 2 ^ q := by
  unfold flipAt
  rw [UInt8.toNat_ofNat']
  exact Nat.mod_eq_of_lt (Nat.xor_lt_two_pow x.toNat_lt (Nat.pow_lt_pow_right (by decide) hq))
theorem flip_num (x : UInt8) (q : Nat) (hq : q < 8) : bits .xor .u8 (un (b2w x)) ((2 : Int) ^ q % 256) = ((flipAt x q).toNat : Int) := by
  have h : (2 : Int) ^ q % 256 = ((2 ^ q : Nat) : Int) := by
    have : (2 : Nat) ^ q < 2 ^ 8 := Nat.pow_lt_pow_right (by decide) hq
    have e : ((2 ^ q : Nat) : Int) = (2 : Int) ^ q := by simp
    rw [← e]
    clear e
    generalize (2 : Nat) ^ q = N at *
    omega
  rw [h, un_b2w, u8_xor_nat _ _ x.toNat_lt (Nat.pow_lt_pow_right (by decide) hq), flipAt_toNat x q hq]
theorem bi_set (m : List UInt8) (j : Nat) (x : UInt8) : (bi m).set j (x.toNat : Int) = bi (m.set j x) := by unfold bi; rw [List.map_set]
set_option maxRecDepth 100000 in
set_option maxHeartbeats 2000000 in
theorem bursts_walk (w : World) (l : List UInt8) (A : Option Addr) (c : Nat) (hr : Rb w A l) (hc : l.length ≤ c) (hl : l.length ≤ 140737488351232) (at0 : Int) (wat : (Lit.int .i64 at0).wf = true) (word : Int) (wwd : (Lit.int .i64 word).wf = true) (hT : TurnsAt w) :
    Calls Tryd.prog 4 #[.slice A l.length c, .int .i64 at0, .int .i64 word] w fun e w' => e = .returned (.bool true) ∧ Fr No w w' := by
  have HR := Aside0.mk hr
  have HT := Aside0.mk hT
  clear hr hT
  have hcv := fun (w : World) (C : Array Value) (n c : Nat) => Lib.run_convert_bytes_const (P := Tryd.prog) w 22 5 C n c Tryd.underlying22 Tryd.underlying5
  have HF1 : Aside0 (Fr No w (w.alloc (.cells nineC 5 (9, 10)))) := ⟨(Fr.refl No w).alloc _⟩
  have HR1 := Aside0.mk (nine_reads w)
  go_enter Tryd.func4, Tryd.ntmps4
  go_wp2_with fail
  refine (nine_calls _ _ HR1.out (HT.out.fr HF1.out id)).mono ?_
  rintro e w2 ⟨rfl, rfl⟩
  generalize w.alloc (.cells nineC 5 (9, 10)) = w2 at *
  have HRb : Aside0 (Rb (w2.alloc (.cells #[] 5)) A l) := ⟨C_fr HR.out (HF1.out.alloc _)⟩
  have HO : Aside0 (Mine (w2.alloc (.cells #[] 5)) w.heap.size (.slice (some ⟨w2.heap.size, 0, none⟩) 0 0) []) := ⟨Mine.lower (own_empty w2) HF1.out.size⟩
  go_wp2_with (at_builtin; refine app_row (w0 := w) rfl (.tmp 19) (.tmp 20) 22 rfl Tryd.underlying22 infoU8 _ [] (bi l) A l.length c rfl rfl HO.out HRb.out (HF1.out.alloc _) (by simp; omega) ?_)
  intro v w3 hv hf hg
  have HV := Aside0.mk (Mine.row8 (l := l) hv); have HF := Aside0.mk hf
  clear hv hf hg
  by_cases hz : l.length = 0
  · have hz1 : ((l.length : Int) == 0) = true := beq_iff_eq.2 (by omega)
    clear hz
    go_wp2
    go_ret
    exact ⟨rfl, HF.out⟩
  · have hz1 : ((l.length : Int) == 0) = false := beq_eq_false_iff_ne.2 (by omega)
    have hpos : 0 < l.length := by omega
    clear hz
    go_upto_if 31 with fail
    go_cut [1] (fun s1 wx => wx = w3 ∧ ∃ p : Nat, p < 8 * l.length ∧ s1 = .int .i64 p)
    case first =>
      obtain ⟨q, hq⟩ : ∃ q : Int, at0.tmod (8 * (l.length : Int)) = q := ⟨_, rfl⟩
      have hq1 : -(8 * (l.length : Int)) < q := by subst hq; have := Int.lt_tmod_of_pos at0 (show (0 : Int) < 8 * l.length by omega); omega
      have hq2 : q < 8 * (l.length : Int) := by subst hq; exact Int.tmod_lt_of_pos _ (by omega)
      rw [hq]
      clear hq
      by_cases h0 : q < 0
      · go_wp2_with fail
        go_meet
        exact ⟨rfl, (q + 8 * l.length).toNat, by omega, by congr 1; omega⟩
      · go_wp2_with fail
        go_meet
        exact ⟨rfl, q.toNat, by omega, by congr 1; omega⟩
    case rest =>
      obtain ⟨rfl, p, hp, rfl⟩ := hcut
      obtain ⟨g, cap, rfl, hgb, hgl⟩ := World.ownsRow.form HV.out hpos
      have HGB := Aside0.mk hgb; have HGL := Aside0.mk hgl
      clear hgb hgl
      go_wp2
      go_loopw [9, 10] (fun ch i wr => ∃ (k u : Nat) (m : List UInt8) (b : Bool), k ≤ 32 ∧ u < 2 ^ k ∧ i = .int .i64 k ∧ ch = .bool b ∧ Aside0 (b = true ↔ u ≠ 0) ∧ Aside0 (m.length = l.length) ∧ Aside0 (VN m = VN l ^^^ (u * 2 ^ p)) ∧
        Aside0 (wr.ownsRow w.heap.size 5 1 (.slice (some ⟨g, 0, none⟩) l.length cap) l.length (nums .u8 (bi m))) ∧ Aside0 (Fr No w wr)) (fun _ i _ => 32 - (intOf i).toNat)
      case atStart => exact ⟨0, 0, l, false, by omega, by omega, rfl, rfl, ⟨by simp⟩, ⟨rfl⟩, ⟨by simp⟩, HV, HF⟩
      case round =>
        obtain ⟨k, u, m, b, hk, hu, rfl, rfl, HBU, HML, HVN, HO, HF⟩ := hrel
        have HU := Aside0.mk hu; clear hu
        by_cases hend : k < 32 ∧ p + k < 8 * l.length
        · obtain ⟨hk32, hpk⟩ := hend
          obtain ⟨z, hz⟩ : ∃ z : Int, bits .and .i64 (word / 2 ^ k) 1 = z := ⟨_, rfl⟩
          by_cases hb : z = 1
          · have hb1 : (z == 1) = true := beq_iff_eq.2 hb
            clear hb
            have hj : (p + k) / 8 < m.length := by have := HML.out; omega
            have hat := own_at HO.out (((p + k) / 8 : Nat) : Int) (by omega) (by omega)
            rw [rd_bi m _ hj, Int.toNat_natCast] at hat
            obtain ⟨hcell, hfree⟩ := hat
            have HST := Aside0.mk (own_store HO.out (((p + k) / 8 : Nat) : Int))
            generalize hx : m[(p + k) / 8] = x at *
            have HX := Aside0.mk hx; clear hx
            go_wp2_with fail
            go_region
            have hq : (p + k) % 8 < 8 := Nat.mod_lt _ (by decide)
            rw [flip_num x _ hq]
            go_wp2
            go_roundw
            case rel =>
              refine ⟨k + 1, u ^^^ 2 ^ k, m.set ((p + k) / 8) (flipAt x ((p + k) % 8)), true, by omega, ?_, by go_num, rfl, ⟨?_⟩, ⟨by rw [List.length_set]; exact HML.out⟩, ⟨?_⟩, ⟨?_⟩, ⟨(HF.out.setCell (.inr HGB.out) _).drew⟩⟩
              · exact Nat.xor_lt_two_pow (Nat.lt_trans HU.out (Nat.pow_lt_pow_right (by decide) (by omega))) (Nat.pow_lt_pow_right (by decide) (by omega))
              · simp only [true_iff]
                intro h0
                have h1 := (xor_zero_iff _ _).1 h0
                have h2 := HU.out
                omega
              · rw [VN_set m _ hj, HVN.out, HX.out, flipAt_toNat x _ hq, show x.toNat ^^^ (x.toNat ^^^ 2 ^ ((p + k) % 8)) = 2 ^ ((p + k) % 8) by rw [← Nat.xor_assoc, Nat.xor_self, Nat.zero_xor],
                  ← Nat.pow_add, show (p + k) % 8 + 8 * ((p + k) / 8) = k + p by omega, Nat.pow_add, Nat.xor_assoc]
                congr 1
                rw [← Nat.shiftLeft_eq, ← Nat.shiftLeft_eq, ← Nat.shiftLeft_eq, Nat.shiftLeft_xor_distrib]
              · have h1 := (HST.out ((flipAt x ((p + k) % 8)).toNat : Int)).1
                rw [Int.toNat_natCast, bi_set] at h1
                exact h1
            case measure => simp [intOf]; omega
          · have hb1 : (z == 1) = false := beq_eq_false_iff_ne.2 hb
            clear hb
            go_wp2
            go_roundw
            case rel => exact ⟨k + 1, u, m, b, by omega, Nat.lt_trans HU.out (Nat.pow_lt_pow_right (by decide) (by omega)), by go_num, rfl, HBU, HML, HVN, HO, HF⟩
            case measure => simp [intOf]; omega
        · have hu32 : u < 4294967296 := Nat.lt_of_lt_of_le HU.out (Nat.pow_le_pow_right (by decide) hk)
          have HNE := Aside0.mk (crcW_ne l m HML.out.symm p u HVN.out hu32 (fun _ => by omega))
          clear hu32
          have HT1 : Aside0 (TurnsAt wr) := ⟨HT.out.fr HF.out id⟩
          have HR1 : Aside0 (Rb wr A l) := ⟨C_fr HR.out HF.out⟩
          obtain ⟨M, cm, hM, hcm, hrm⟩ := (Row8.mine (l := m) (by unfold Row8; rw [HML.out]; exact HO.out)).reads
          injection hM with hM1 hM2 hM3
          have HRM := Aside0.mk hrm
          subst hM1
          clear hrm hcm hM3 hM2 cm
          have h0 := un_nonneg (crcW l)
          have hlt := un_lt (crcW l)
          have HLT : Aside0 (un (crcW l) < 4294967296) := ⟨hlt⟩
          clear hlt
          have hxy : (un (crcW l) != un (crcW m)) = b := by
            have h1 : (un (crcW l) = un (crcW m)) ↔ u = 0 := ⟨fun h => HNE.out.1 (un_inj h), fun h => by rw [HNE.out.2 h]⟩
            cases b with
            | false => have h2 : u = 0 := Decidable.byContradiction fun h => by have := HBU.out.2 h; cases this
                       rw [h1.2 h2]; simp
            | true => have h2 := HBU.out.1 rfl
                      rw [bne_iff_ne]; exact fun h => h2 (h1.1 h)
          have hbb : (b == b) = true := beq_self_eq_true b
          have hexit : k < 32 → 8 * l.length ≤ p + k := fun h => by omega
          clear hend
          by_cases h32 : k < 32
          · have hpk := hexit h32
            clear hexit
            go_wp2_with fail
            refine (crc_calls l _ _ _ HR1.out HT1.out).mono ?_
            rintro e w1 ⟨rfl, rfl⟩
            go_wp2_with fail
            refine (crc_at m l.length HML.out _ _ _ HRM.out HT1.out).mono ?_
            rintro e w1 ⟨rfl, rfl⟩
            go_wp2
            go_ret
            exact ⟨congrArg (fun b => Ending.returned (.bool b)) (decide_eq_true HLT.out), HF.out⟩
          · clear hexit
            go_wp2_with fail
            refine (crc_calls l _ _ _ HR1.out HT1.out).mono ?_
            rintro e w1 ⟨rfl, rfl⟩
            go_wp2_with fail
            refine (crc_at m l.length HML.out _ _ _ HRM.out HT1.out).mono ?_
            rintro e w1 ⟨rfl, rfl⟩
            go_wp2
            go_ret
            exact ⟨congrArg (fun b => Ending.returned (.bool b)) (decide_eq_true HLT.out), HF.out⟩
end Go.Proofs.YtbaeddppihjgfaaDoor.Sg
