/- The walks of Hex and Unhex, the program's and the reference's: both answer the plain functions. -/
import Derived.Test.YtbaeddppihjgfaaProg
import Derived.KernelRfl
import Derived.Deep.QuietTactic
import Derived.BigQuiet
import Derived.Deep.RegionHeld3
import Derived.WalkLawsBesides
import Derived.WalkSpells
import Derived.Test.YtbaeddppihjgfaaHexLaw
import Derived.Test.YtbaeddppihjgfaaRoom
namespace Go.Proofs.Ytbaeddppihjgfaa.Sg
open Go Go.RowKit Go.Proofs.YtbaeddppihjgfaaW.PrintWords
set_option linter.unusedVariables false
abbrev hexB : ByteArray := ⟨#[48, 49, 50, 51, 52, 53, 54, 55, 56, 57, 97, 98, 99, 100, 101, 102]⟩
theorem hex_index (k : Nat) (hk : k < 16) (w : World) : (Instr.index 9 (.string hexB) (.int .i64 (k : Int))).run Try.prog w = .ok (.int .u8 ((hexOf k).toNat : Int)) w := by
  have : k = 0 ∨ k = 1 ∨ k = 2 ∨ k = 3 ∨ k = 4 ∨ k = 5 ∨ k = 6 ∨ k = 7 ∨ k = 8 ∨ k = 9 ∨ k = 10 ∨ k = 11 ∨ k = 12 ∨ k = 13 ∨ k = 14 ∨ k = 15 := by omega
  rcases this with rfl | rfl | rfl | rfl | rfl | rfl | rfl | rfl | rfl | rfl | rfl | rfl | rfl | rfl | rfl | rfl <;> rfl
theorem hex_index8 (k : Nat) (hk : k < 16) (w : World) : (Instr.index 9 (.string hexB) (.int .u8 (k : Int))).run Try.prog w = .ok (.int .u8 ((hexOf k).toNat : Int)) w := by
  have : k = 0 ∨ k = 1 ∨ k = 2 ∨ k = 3 ∨ k = 4 ∨ k = 5 ∨ k = 6 ∨ k = 7 ∨ k = 8 ∨ k = 9 ∨ k = 10 ∨ k = 11 ∨ k = 12 ∨ k = 13 ∨ k = 14 ∨ k = 15 := by omega
  rcases this with rfl | rfl | rfl | rfl | rfl | rfl | rfl | rfl | rfl | rfl | rfl | rfl | rfl | rfl | rfl | rfl <;> rfl
/-- A digit's worth as the walks tell it. -/
def wv (o : Option Nat) : Int := match o with
  | some j => (j : Int)
  | none => -1
theorem byte_beq (x y : UInt8) : (((x.toNat : Int)) == (y.toNat : Int)) = decide (x = y) := by
  rw [Bool.eq_iff_iff]
  simp only [beq_iff_eq, decide_eq_true_eq]
  exact ⟨fun h => UInt8.toNat_inj.1 (by omega), fun h => by rw [h]⟩
set_option maxHeartbeats 1000000 in
theorem worth_calls (c : UInt8) (w : World) :
    Calls Try.prog 31 #[.int .u8 (c.toNat : Int)] w fun e w' => e = .returned (.int .i64 (wv (worthN c))) ∧ w = w' := by
  go_enter Try.func31, Try.ntmps31
  go_wp2
  go_loop [4] (fun i => ∃ k : Nat, k ≤ 16 ∧ i = .int .i64 k ∧ Aside0 (posIn c k = none)) (fun i => 16 - (intOf i).toNat)
  case atStart => exact ⟨0, by omega, rfl, ⟨rfl⟩⟩
  case round =>
    obtain ⟨k, hk, rfl, HP⟩ := hrel
    by_cases hlt : k < 16
    · have hix := fun w => hex_index k hlt w
      by_cases he : hexOf k = c
      · have hb : (((hexOf k).toNat : Int) == (c.toNat : Int)) = true := by rw [byte_beq]; exact decide_eq_true he
        have HW := Aside0.mk (posIn_hit c k HP.out he 16 hlt)
        clear he
        go_wp2
        go_ret
        exact ⟨congrArg (fun z => Ending.returned (.int .i64 z)) (by unfold worthN; rw [HW.out]; rfl), rfl⟩
      · have hb : (((hexOf k).toNat : Int) == (c.toNat : Int)) = false := by rw [byte_beq]; exact decide_eq_false he
        have HW := Aside0.mk (posIn_none_succ c k HP.out he)
        clear he
        go_wp2
        go_round
        case rel => exact ⟨k + 1, by omega, by go_num, HW⟩
        case measure => simp [intOf]; omega
    · obtain rfl : k = 16 := by omega
      go_wp2
      go_ret
      exact ⟨congrArg (fun z => Ending.returned (.int .i64 z)) (by unfold worthN; rw [HP.out]; rfl), rfl⟩
set_option maxHeartbeats 1000000 in
theorem digit_calls (c : UInt8) (w : World) :
    Calls Try.prog 32 #[.int .u8 (c.toNat : Int)] w fun e w' => e = .returned (.int .i64 (wv (worthN c))) ∧ w = w' := by
  go_enter Try.func32, Try.ntmps32
  go_wp2
  go_loop [3] (fun i => ∃ k : Nat, k ≤ 16 ∧ i = .int .i64 k ∧ Aside0 (posIn c k = none)) (fun i => 16 - (intOf i).toNat)
  case atStart => exact ⟨0, by omega, rfl, ⟨rfl⟩⟩
  case round =>
    obtain ⟨k, hk, rfl, HP⟩ := hrel
    by_cases hlt : k < 16
    · have hix := fun w => hex_index k hlt w
      by_cases he : hexOf k = c
      · have hb : (((hexOf k).toNat : Int) == (c.toNat : Int)) = true := by rw [byte_beq]; exact decide_eq_true he
        have HW := Aside0.mk (posIn_hit c k HP.out he 16 hlt)
        clear he
        go_wp2
        go_ret
        exact ⟨congrArg (fun z => Ending.returned (.int .i64 z)) (by unfold worthN; rw [HW.out]; rfl), rfl⟩
      · have hb : (((hexOf k).toNat : Int) == (c.toNat : Int)) = false := by rw [byte_beq]; exact decide_eq_false he
        have HW := Aside0.mk (posIn_none_succ c k HP.out he)
        clear he
        go_wp2
        go_round
        case rel => exact ⟨k + 1, by omega, by go_num, HW⟩
        case measure => simp [intOf]; omega
    · obtain rfl : k = 16 := by omega
      go_wp2
      go_ret
      exact ⟨congrArg (fun z => Ending.returned (.int .i64 z)) (by unfold worthN; rw [HP.out]; rfl), rfl⟩
theorem u8_div16 (b : UInt8) : (un (b2w b)) / (16 : Int) = ((b.toNat / 16 : Nat) : Int) := by rw [un_b2w]; omega
theorem u8_and15' (b : UInt8) : bits .and .u8 (un (b2w b)) 15 = ((b.toNat % 16 : Nat) : Int) := by
  rw [un_b2w, u8_and15 _ (by omega) (by have := b.toNat_lt; omega)]; omega
theorem hexL_take (l : List UInt8) (k : Nat) (hk : k < l.length) : hexL (l.take (k + 1)) = hexL (l.take k) ++ [hexOf (l[k].toNat / 16), hexOf (l[k].toNat % 16)] := by
  rw [List.take_succ_eq_append_getElem hk, hexL_append]; rfl
theorem hexes_reads (W : World) (a b : UInt8) : Kd.C (Kd.int .u8) (W.alloc (.cells #[.int .u8 (a.toNat : Int), .int .u8 (b.toNat : Int)] 5)) (some ⟨W.heap.size, 0, none⟩) 2 (bi [a, b]) := lit_reads W [a, b] (by simp)
set_option maxRecDepth 100000 in
set_option maxHeartbeats 1000000 in
theorem hex_calls (l : List UInt8) (A : Option Addr) (c : Nat) (w : World) (hr : Rb w A l) (hl : l.length ≤ 1048576) :
    Calls Try.prog 20 #[.slice A l.length c] w fun e w' => e = .returned (.string ⟨(hexL l).toArray⟩) ∧ Fr No w w' := by
  have HR := Aside0.mk hr
  clear hr
  have hmk := make0 (P := Try.prog) 25 Try.underlying25 infoU8 (2 * l.length) (by omega)
  have ec : ((2 * l.length : Nat) : Int) = 2 * (l.length : Int) := by omega
  rw [ec] at hmk
  clear ec
  have HM := Aside0.mk (mine_made w (2 * l.length) w.heap.size (Nat.le_refl _) (by simp [maxLen]; omega))
  have HF0 : Aside0 (Fr No w (w.alloc (.cells (madeCells #[.int .u8 0] (2 * l.length)) 5))) := ⟨(Fr.refl No w).alloc _⟩
  go_enter Try.func20, Try.ntmps20
  go_wp2
  go_loopw [3, 12] (fun v i wr => ∃ k : Nat, k ≤ l.length ∧ i = .int .i64 k ∧ Aside0 (Mine wr w.heap.size v (bi (hexL (l.take k)))) ∧ Aside0 (Fr No w wr)) (fun _ i _ => l.length - (intOf i).toNat)
  case atStart => exact ⟨0, by omega, rfl, HM, HF0⟩
  case round =>
    clear HM HF0 hmk
    obtain ⟨k, hk, rfl, HV, HF⟩ := hrel
    by_cases hlt : k < l.length
    · obtain ⟨ad, hA, hcell⟩ := C_byte (C_fr HR.out HF.out) k hlt
      subst hA
      have HT := Aside0.mk (hexL_take l k hlt)
      have hlen : (bi (hexL (l.take k))).length = 2 * k := by rw [bi_length, hexL_length]; simp; omega
      have HL := Aside0.mk hlen; clear hlen
      have hb := l[k].toNat_lt
      have h16 := u8_div16 l[k]
      have h15 := u8_and15' l[k]
      obtain ⟨d1, hd1, hl1⟩ : ∃ d1, l[k].toNat / 16 = d1 ∧ d1 < 16 := ⟨_, rfl, by omega⟩
      obtain ⟨d2, hd2, hl2⟩ : ∃ d2, l[k].toNat % 16 = d2 ∧ d2 < 16 := ⟨_, rfl, by omega⟩
      rw [hd1] at h16
      rw [hd2] at h15
      rw [hd1, hd2] at HT
      clear hd1 hd2 hb
      have hix1 := fun w => hex_index8 d1 hl1 w
      have hix2 := fun w => hex_index8 d2 hl2 w
      go_wp2_with fail
      have HV1 : Aside0 (Mine (wr.drew.alloc (.cells #[.int .u8 ((hexOf (d1)).toNat : Int), .int .u8 ((hexOf (d2)).toNat : Int)] 5)) w.heap.size u3 (bi (hexL (l.take k)))) := ⟨HV.out.fr ((Fr.refl No wr).drew.alloc _) (fun _ _ => id)⟩
      have HF1 : Aside0 (Fr No w (wr.drew.alloc (.cells #[.int .u8 ((hexOf (d1)).toNat : Int), .int .u8 ((hexOf (d2)).toNat : Int)] 5))) := ⟨HF.out.drew.alloc _⟩
      have HC := Aside0.mk (hexes_reads wr.drew (hexOf (d1)) (hexOf (d2)))
      go_region_held3 (fun w' => True) (trivial)
        ((refine app_row_step (by rfl) _ _ 25 (by rfl) Try.underlying25 infoU8 u3 (bi (hexL (l.take k))) (bi [hexOf (d1), hexOf (d2)]) _ 2 2 (by rfl) (by rfl) HV1.out HC.out HF1.out (by rw [HL.out]; omega) ?_; intro v1 w1 hm hf hg))
      all_goals
        go_wp2
        exact ⟨⟨k + 1, by omega, by go_num, ⟨by rw [HT.out, bi_append]; exact hm⟩, ⟨hf⟩⟩, by simp [intOf]; omega⟩
    · obtain rfl : k = l.length := by omega
      have hall : l.take l.length = l := List.take_length
      rw [hall] at HV
      clear hall
      obtain ⟨D, cd, hD, hcd, hrd⟩ := HV.out.reads
      have hcv := Kd.C_string (P := Try.prog) (c := cd) Try.underlying25 Try.underlying5 Try.underlying9 hrd
      subst hD
      clear HV hrd hcd
      go_wp2
      go_ret
      exact ⟨congrArg (fun z => Ending.returned (.string z)) (str_bi _), HF.out⟩
theorem u8_tdiv16 (b : UInt8) : (Int.tdiv (un (b2w b)) 16) % 256 = ((b.toNat / 16 : Nat) : Int) := by
  rw [un_b2w, Int.tdiv_eq_ediv_of_nonneg (by omega)]; have := b.toNat_lt; omega
theorem u8_tmod16 (b : UInt8) : Int.tmod (un (b2w b)) 16 = ((b.toNat % 16 : Nat) : Int) := by
  rw [un_b2w, Int.tmod_eq_emod_of_nonneg (by omega)]; omega
set_option maxRecDepth 100000 in
set_option maxHeartbeats 1000000 in
theorem refHex_calls (l : List UInt8) (A : Option Addr) (c : Nat) (w : World) (hr : Rb w A l) (hl : l.length ≤ 1048576) :
    Calls Try.prog 23 #[.slice A l.length c] w fun e w' => e = .returned (.string ⟨(hexL l).toArray⟩) ∧ Fr No w w' := by
  have HR := Aside0.mk hr
  clear hr
  go_enter Try.func23, Try.ntmps23
  go_wp2
  go_loopw [3, 4] (fun v i wr => ∃ k : Nat, k ≤ l.length ∧ i = .int .i64 k ∧ Aside0 (Mine wr w.heap.size v (bi (hexL (l.take k)))) ∧ Aside0 (Fr No w wr)) (fun _ i _ => l.length - (intOf i).toNat)
  case atStart => exact ⟨0, by omega, rfl, ⟨Mine.nil _ _⟩, ⟨Fr.refl _ _⟩⟩
  case round =>
    obtain ⟨k, hk, rfl, HV, HF⟩ := hrel
    by_cases hlt : k < l.length
    · obtain ⟨ad, hA, hcw⟩ := C_byte HR.out k hlt
      subst hA
      have hcell := HF.out.cell hcw id
      replace hcw := Aside0.mk hcw
      have HT := Aside0.mk (hexL_take l k hlt)
      have hlen : (bi (hexL (l.take k))).length = 2 * k := by rw [bi_length, hexL_length]; simp; omega
      have HL := Aside0.mk hlen; clear hlen
      have hb := l[k].toNat_lt
      have h16 := u8_tdiv16 l[k]
      have h15 := u8_tmod16 l[k]
      have h16w : IntKind.u8.wrap (Int.tdiv (un (b2w l[k])) 16) = ((l[k].toNat / 16 : Nat) : Int) := by rw [IntKind.wrap_u8]; exact h16
      obtain ⟨d1, hd1, hl1⟩ : ∃ d1, l[k].toNat / 16 = d1 ∧ d1 < 16 := ⟨_, rfl, by omega⟩
      obtain ⟨d2, hd2, hl2⟩ : ∃ d2, l[k].toNat % 16 = d2 ∧ d2 < 16 := ⟨_, rfl, by omega⟩
      rw [hd1] at h16 h16w
      rw [hd2] at h15
      rw [hd1, hd2] at HT
      clear hd1 hd2 hb
      have hix1 := fun w => hex_index8 d1 hl1 w
      have hix2 := fun w => hex_index8 d2 hl2 w
      have hk0 : (0 : Int) ≤ (k : Int) := by omega
      have hk1 : (k : Int) < (l.length : Int) := by omega
      go_wp2_with fail
      have HV1 : Aside0 (Mine (wr.drew.alloc (.cells #[.int .u8 ((hexOf d1).toNat : Int), .int .u8 ((hexOf d2).toNat : Int)] 5)) w.heap.size u3 (bi (hexL (l.take k)))) := ⟨HV.out.fr ((Fr.refl No wr).drew.alloc _) (fun _ _ => id)⟩
      have HF1 : Aside0 (Fr No w (wr.drew.alloc (.cells #[.int .u8 ((hexOf d1).toNat : Int), .int .u8 ((hexOf d2).toNat : Int)] 5))) := ⟨HF.out.drew.alloc _⟩
      have HC := Aside0.mk (hexes_reads wr.drew (hexOf d1) (hexOf d2))
      go_region_held3 (fun w' => w'.cell? (ad.add k) = some (.int .u8 (un (b2w l[k])))) (first | go_keep | exact hf.cell hcw.out id)
        ((refine app_row_step (by rfl) _ _ 25 (by rfl) Try.underlying25 infoU8 u3 (bi (hexL (l.take k))) (bi [hexOf d1, hexOf d2]) _ 2 2 (by rfl) (by rfl) HV1.out HC.out HF1.out (by rw [HL.out]; omega) ?_; intro v1 w1 hm hf hg))
      all_goals
        go_wp2
        exact ⟨⟨k + 1, by omega, by go_num, ⟨by rw [HT.out, bi_append]; exact hm⟩, ⟨hf⟩⟩, by simp [intOf]; omega⟩
    · obtain rfl : k = l.length := by omega
      have hall : l.take l.length = l := List.take_length
      rw [hall] at HV
      clear hall
      obtain ⟨D, cd, hD, hcd, hrd⟩ := HV.out.reads
      have hcv := Kd.C_string (P := Try.prog) (c := cd) Try.underlying25 Try.underlying5 Try.underlying9 hrd
      subst hD
      clear HV hrd hcd
      go_wp2
      go_ret
      exact ⟨congrArg (fun z => Ending.returned (.string z)) (str_bi _), HF.out⟩
end Go.Proofs.Ytbaeddppihjgfaa.Sg
