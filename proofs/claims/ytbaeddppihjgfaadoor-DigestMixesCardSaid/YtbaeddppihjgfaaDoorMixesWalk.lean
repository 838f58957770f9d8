/- The walk of the law DigestMixes. -/
import Derived.Test.YtbaeddppihjgfaaDoorCrcNine
import Derived.Test.YtbaeddppihjgfaaDoorCrcLaw
import Derived.Test.YtbaeddppihjgfaaDoorRoom
import Derived.Deep.RegionHeld3
import Derived.Deep.DeepCutAuto
import Derived.Deep.CutBlock
namespace Go.Proofs.YtbaeddppihjgfaaDoor.Sg
open Go Go.RowKit Go.Proofs.YtbaeddppihjgfaaDoorW.PrintWords
set_option linter.unusedVariables false
theorem u8_xor2 (x y : UInt8) : bits .xor .u8 (un (b2w x)) (un (b2w y)) = un (b2w (x ^^^ y)) := by
  rw [un_b2w, un_b2w, un_b2w, u8_xor_nat _ _ x.toNat_lt y.toNat_lt, UInt8.toNat_xor]
attribute [local go_sem] u8_xor2 i_xor
set_option maxRecDepth 100000 in
set_option maxHeartbeats 2000000 in
theorem mixes_walk (w : World) (a : List UInt8) (A : Option Addr) (ca : Nat) (hra : Rb w A a) (hca : a.length ≤ ca) (hla : a.length ≤ 140737488351232)
    (b : List UInt8) (B : Option Addr) (cb : Nat) (hrb : Rb w B b) (hcb : b.length ≤ cb) (hlb : b.length ≤ 140737488351232)
    (c : List UInt8) (C : Option Addr) (cc : Nat) (hrc : Rb w C c) (hcc : c.length ≤ cc) (hlc : c.length ≤ 140737488351232) (hT : TurnsAt w) :
    Calls Tryd.prog 5 #[.slice A a.length ca, .slice B b.length cb, .slice C c.length cc] w fun e w' => e = .returned (.bool true) ∧ Fr No w w' := by
  have HA := Aside0.mk hra; have HB := Aside0.mk hrb; have HC := Aside0.mk hrc
  have HT := Aside0.mk hT
  clear hra hrb hrc hT
  have hcv := fun (w : World) (C : Array Value) (n c : Nat) => Lib.run_convert_bytes_const (P := Tryd.prog) w 22 5 C n c Tryd.underlying22 Tryd.underlying5
  obtain ⟨n, hn⟩ : ∃ n : Nat, n = min (min a.length b.length) c.length := ⟨_, rfl⟩
  have hna : n ≤ a.length := by omega
  have hnb : n ≤ b.length := by omega
  have hnc : n ≤ c.length := by omega
  have HN := Aside0.mk hn; clear hn
  obtain ⟨m, hm⟩ : ∃ m : Nat, m = min a.length b.length := ⟨_, rfl⟩
  have HM := Aside0.mk hm; clear hm
  go_enter Tryd.func5, Tryd.ntmps5
  go_upto_if 20 with fail
  go_cut [7] (fun s7 wx => wx = w ∧ s7 = .int .i64 m)
  case first =>
    by_cases h1 : b.length < a.length
    · have e : m = b.length := by have := HM.out; omega
      subst e
      go_wp2_with fail
      go_meet
      exact ⟨rfl, rfl⟩
    · have e : m = a.length := by have := HM.out; omega
      subst e
      go_wp2_with fail
      go_meet
      exact ⟨rfl, rfl⟩
  case rest =>
    obtain ⟨rfl, rfl⟩ := hcut
    have hm0 : m ≤ a.length := by have := HM.out; omega
    go_upto_if 26 with fail
    go_cut [7] (fun s7 wx => wx = wc ∧ s7 = .int .i64 n)
    case first =>
      by_cases h1 : c.length < m
      · have e : n = c.length := by have := HN.out; have := HM.out; omega
        subst e
        go_wp2_with fail
        go_meet
        exact ⟨rfl, rfl⟩
      · have e : n = m := by have := HN.out; have := HM.out; omega
        subst e
        go_wp2_with fail
        go_meet
        exact ⟨rfl, rfl⟩
    case rest =>
      obtain ⟨rfl, rfl⟩ := hcut
      clear HN
      go_wp2
      go_loopw [8, 9] (fun v i wr => ∃ k : Nat, k ≤ n ∧ i = .int .i64 k ∧ Aside0 (Mine wr wc.heap.size v (bi (xor3 (a.take k) (b.take k) (c.take k)))) ∧ Aside0 (Fr No wc wr)) (fun _ i _ => n - (intOf i).toNat)
      case atStart => exact ⟨0, by omega, rfl, ⟨Mine.nil _ _⟩, ⟨Fr.refl _ _⟩⟩
      case round =>
        obtain ⟨k, hk, rfl, HV, HF⟩ := hrel
        by_cases hlt : k < n
        · obtain ⟨aa, hA, hca0⟩ := C_byte HA.out k (by omega)
          obtain ⟨ab, hB, hcb0⟩ := C_byte HB.out k (by omega)
          obtain ⟨ac, hC, hcc0⟩ := C_byte HC.out k (by omega)
          subst hA; subst hB; subst hC
          have hca1 := HF.out.cell hca0 id; have hcb1 := HF.out.cell hcb0 id; have hcc1 := HF.out.cell hcc0 id
          replace hca0 := Aside0.mk hca0; replace hcb0 := Aside0.mk hcb0; replace hcc0 := Aside0.mk hcc0
          have HT3 := Aside0.mk (xor3_take k a b c (by omega) (by omega) (by omega))
          have hlen : (bi (xor3 (a.take k) (b.take k) (c.take k))).length = k := by
            rw [bi_length]; exact xor3_length _ _ _ k (by simp; omega) (by simp; omega) (by simp; omega)
          have HL := Aside0.mk hlen; clear hlen
          have hk0 : (0 : Int) ≤ (k : Int) := by omega
          have hka : (k : Int) < (a.length : Int) := by omega
          have hkb : (k : Int) < (b.length : Int) := by omega
          have hkc : (k : Int) < (c.length : Int) := by omega
          go_wp2_with fail
          have HV1 : Aside0 (Mine wr.drew wc.heap.size u8 (bi (xor3 (a.take k) (b.take k) (c.take k)))) := ⟨HV.out⟩
          have HF1 : Aside0 (Fr No wc wr.drew) := ⟨HF.out.drew⟩
          go_region_held3 (fun w' => w'.cell? (aa.add k) = some (.int .u8 (un (b2w a[k]))) ∧ w'.cell? (ab.add k) = some (.int .u8 (un (b2w b[k]))) ∧ w'.cell? (ac.add k) = some (.int .u8 (un (b2w c[k]))))
            (first | go_keep | exact ⟨hf.cell hca0.out id, hf.cell hcb0.out id, hf.cell hcc0.out id⟩)
            ((refine app_byte_step (by rfl) _ _ 22 (by rfl) Tryd.underlying22 infoU8 u8 (bi (xor3 (a.take k) (b.take k) (c.take k))) (un (b2w (a[k] ^^^ b[k] ^^^ c[k]))) (by rfl) (by rfl) HV1.out HF1.out (by rw [HL.out]; omega) ?_; intro v1 w1 hm hf hg))
          go_wp2
          go_roundw
          case rel => exact ⟨k + 1, by omega, by go_num, ⟨by rw [HT3.out, bi_append]; rw [un_b2w] at hm; exact hm⟩, ⟨hf⟩⟩
          case measure => simp [intOf]; omega
        · obtain rfl : k = n := by omega
          have HD := Aside0.mk (crcW_xor3 (a.take k) (b.take k) (c.take k) (by simp; omega) (by simp; omega))
          obtain ⟨D, cd, hD, hcd, hrd⟩ := HV.out.reads
          have HT1 : Aside0 (TurnsAt wr) := ⟨HT.out.fr HF.out id⟩
          have HA1 := Aside0.mk (Rb_take (C_fr HA.out HF.out) k hna)
          have HB1 := Aside0.mk (Rb_take (C_fr HB.out HF.out) k hnb)
          have HC1 := Aside0.mk (Rb_take (C_fr HC.out HF.out) k hnc)
          have HRD := Aside0.mk hrd
          have hta : (a.take k).length = k := by simp; omega
          have htb : (b.take k).length = k := by simp; omega
          have htc : (c.take k).length = k := by simp; omega
          have HLA := Aside0.mk hta; have HLB := Aside0.mk htb; have HLC := Aside0.mk htc
          clear hrd hta htb htc HV
          subst hD
          generalize xor3 (a.take k) (b.take k) (c.take k) = d at *
          have ha0 : (k : Int) ≤ (ca : Int) := by omega
          have hb0 : (k : Int) ≤ (cb : Int) := by omega
          have hc0 : (k : Int) ≤ (cc : Int) := by omega
          go_wp2_with fail
          refine (crc_calls d _ _ _ HRD.out HT1.out).mono ?_
          rintro e w1 ⟨rfl, rfl⟩
          go_wp2_with fail
          refine (crc_at (a.take k) k HLA.out _ _ _ HA1.out HT1.out).mono ?_
          rintro e w1 ⟨rfl, rfl⟩
          go_wp2_with fail
          refine (crc_at (b.take k) k HLB.out _ _ _ HB1.out HT1.out).mono ?_
          rintro e w1 ⟨rfl, rfl⟩
          go_wp2_with fail
          refine (crc_at (c.take k) k HLC.out _ _ _ HC1.out HT1.out).mono ?_
          rintro e w1 ⟨rfl, rfl⟩
          go_wp2_with fail
          have HF1 : Aside0 (Fr No wc (wr.alloc (.cells nineC 5 (9, 10)))) := ⟨HF.out.alloc _⟩
          have HR1 := Aside0.mk (nine_reads wr)
          refine (nine_calls _ _ HR1.out (HT.out.fr HF1.out id)).mono ?_
          rintro e w2 ⟨rfl, rfl⟩
          have he : (un (crcW d) == un (crcW (a.take k) ^^^ crcW (b.take k) ^^^ crcW (c.take k))) = true := by rw [HD.out]; simp
          go_wp2
          go_ret
          exact ⟨rfl, HF1.out⟩
end Go.Proofs.YtbaeddppihjgfaaDoor.Sg
