/- The walks of Hex and Unhex, the program's and the reference's: both answer the plain functions. -/
import Derived.Test.YtbaeddppihjgfaaDoorProg
import Derived.KernelRfl
import Derived.Deep.QuietTactic
import Derived.BigQuiet
import Derived.Deep.RegionHeld3
import Derived.WalkLawsBesides
import Derived.WalkSpells
import Derived.Test.YtbaeddppihjgfaaDoorMgHex
import Derived.Test.YtbaeddppihjgfaaDoorRoom
namespace Go.Proofs.YtbaeddppihjgfaaDoor.Sg
open Go Go.RowKit Go.Proofs.YtbaeddppihjgfaaDoorW.PrintWords
set_option linter.unusedVariables false
abbrev hexB : ByteArray := ⟨#[48, 49, 50, 51, 52, 53, 54, 55, 56, 57, 97, 98, 99, 100, 101, 102]⟩
set_option maxRecDepth 100000 in
theorem hex_index (k : Nat) (hk : k < 16) (w : World) : (Instr.index 9 (.string hexB) (.int .i64 (k : Int))).run Tryd.prog w = .ok (.int .u8 ((hexOf k).toNat : Int)) w := by
  have : k = 0 ∨ k = 1 ∨ k = 2 ∨ k = 3 ∨ k = 4 ∨ k = 5 ∨ k = 6 ∨ k = 7 ∨ k = 8 ∨ k = 9 ∨ k = 10 ∨ k = 11 ∨ k = 12 ∨ k = 13 ∨ k = 14 ∨ k = 15 := by omega
  rcases this with rfl | rfl | rfl | rfl | rfl | rfl | rfl | rfl | rfl | rfl | rfl | rfl | rfl | rfl | rfl | rfl <;> rfl
set_option maxRecDepth 100000 in
theorem hex_index8 (k : Nat) (hk : k < 16) (w : World) : (Instr.index 9 (.string hexB) (.int .u8 (k : Int))).run Tryd.prog w = .ok (.int .u8 ((hexOf k).toNat : Int)) w := by
  have : k = 0 ∨ k = 1 ∨ k = 2 ∨ k = 3 ∨ k = 4 ∨ k = 5 ∨ k = 6 ∨ k = 7 ∨ k = 8 ∨ k = 9 ∨ k = 10 ∨ k = 11 ∨ k = 12 ∨ k = 13 ∨ k = 14 ∨ k = 15 := by omega
  rcases this with rfl | rfl | rfl | rfl | rfl | rfl | rfl | rfl | rfl | rfl | rfl | rfl | rfl | rfl | rfl | rfl <;> rfl
/-- A digit's worth as the walks tell it. -/
def wv (o : Option Nat) : Int := match o with
  | some j => (j : Int)
  | none => -1
theorem byte_beq (x y : UInt8) : (((x.toNat : Int)) == (y.toNat : Int)) = decide (x = y) := by
  rw [Bool.eq_iff_iff]
  simp only [beq_iff_eq, decide_eq_true_eq]
  exact ⟨fun h => UInt8.toNat_inj.1 (by omega), fun h => by rw [h]⟩
set_option maxHeartbeats 1000000 in
theorem worth_calls (c : UInt8) (w : World) :
    Calls Tryd.prog 72 #[.int .u8 (c.toNat : Int)] w fun e w' => e = .returned (.int .i64 (wv (worthN c))) ∧ w = w' := by
  go_enter Tryd.func72, Tryd.ntmps72
  go_wp2
  go_loop [4] (fun i => ∃ k : Nat, k ≤ 16 ∧ i = .int .i64 k ∧ Aside0 (posIn c k = none)) (fun i => 16 - (intOf i).toNat)
  case atStart => exact ⟨0, by omega, rfl, ⟨rfl⟩⟩
  case round =>
    obtain ⟨k, hk, rfl, HP⟩ := hrel
    by_cases hlt : k < 16
    · have hix := fun w => hex_index k hlt w
      by_cases he : hexOf k = c
      · have hb : (((hexOf k).toNat : Int) == (c.toNat : Int)) = true := by rw [byte_beq]; exact decide_eq_true he
        have HW := Aside0.mk (posIn_hit c k HP.out he 16 hlt)
        clear he
        go_wp2
        go_ret
        exact ⟨congrArg (fun z => Ending.returned (.int .i64 z)) (by unfold worthN; rw [HW.out]; rfl), rfl⟩
      · have hb : (((hexOf k).toNat : Int) == (c.toNat : Int)) = false := by rw [byte_beq]; exact decide_eq_false he
        have HW := Aside0.mk (posIn_none_succ c k HP.out he)
        clear he
        go_wp2
        go_round
        case rel => exact ⟨k + 1, by omega, by go_num, HW⟩
        case measure => simp [intOf]; omega
    · obtain rfl : k = 16 := by omega
      go_wp2
      go_ret
      exact ⟨congrArg (fun z => Ending.returned (.int .i64 z)) (by unfold worthN; rw [HP.out]; rfl), rfl⟩
theorem u8_div16 (b : UInt8) : (un (b2w b)) / (16 : Int) = ((b.toNat / 16 : Nat) : Int) := by rw [un_b2w]; omega
theorem u8_and15' (b : UInt8) : bits .and .u8 (un (b2w b)) 15 = ((b.toNat % 16 : Nat) : Int) := by
  rw [un_b2w, u8_and15 _ (by omega) (by have := b.toNat_lt; omega)]; omega
theorem hexL_take (l : List UInt8) (k : Nat) (hk : k < l.length) : hexL (l.take (k + 1)) = hexL (l.take k) ++ [hexOf (l[k].toNat / 16), hexOf (l[k].toNat % 16)] := by
  rw [List.take_succ_eq_append_getElem hk, hexL_append]; rfl
theorem hexes_reads (W : World) (a b : UInt8) : Kd.C (Kd.int .u8) (W.alloc (.cells #[.int .u8 (a.toNat : Int), .int .u8 (b.toNat : Int)] 5)) (some ⟨W.heap.size, 0, none⟩) 2 (bi [a, b]) := lit_reads W [a, b] (by simp)
set_option maxRecDepth 100000 in
set_option maxHeartbeats 1000000 in
theorem hex_calls (l : List UInt8) (A : Option Addr) (c : Nat) (w : World) (hr : Rb w A l) (hl : l.length ≤ 1048576) :
    Calls Tryd.prog 50 #[.slice A l.length c] w fun e w' => e = .returned (.string ⟨(hexL l).toArray⟩) ∧ Fr No w w' := by
  have HR := Aside0.mk hr
  clear hr
  have hmk := make0 (P := Tryd.prog) 22 Tryd.underlying22 infoU8 (2 * l.length) (by omega)
  have ec : ((2 * l.length : Nat) : Int) = 2 * (l.length : Int) := by omega
  rw [ec] at hmk
  clear ec
  have HM := Aside0.mk (mine_made w (2 * l.length) w.heap.size (Nat.le_refl _) (by simp [maxLen]; omega))
  have HF0 : Aside0 (Fr No w (w.alloc (.cells (madeCells #[.int .u8 0] (2 * l.length)) 5))) := ⟨(Fr.refl No w).alloc _⟩
  go_enter Tryd.func50, Tryd.ntmps50
  go_wp2
  go_loopw [3, 12] (fun v i wr => ∃ k : Nat, k ≤ l.length ∧ i = .int .i64 k ∧ Aside0 (Mine wr w.heap.size v (bi (hexL (l.take k)))) ∧ Aside0 (Fr No w wr)) (fun _ i _ => l.length - (intOf i).toNat)
  case atStart => exact ⟨0, by omega, rfl, HM, HF0⟩
  case round =>
    clear HM HF0 hmk
    obtain ⟨k, hk, rfl, HV, HF⟩ := hrel
    by_cases hlt : k < l.length
    · obtain ⟨ad, hA, hcell⟩ := C_byte (C_fr HR.out HF.out) k hlt
      subst hA
      have HT := Aside0.mk (hexL_take l k hlt)
      have hlen : (bi (hexL (l.take k))).length = 2 * k := by rw [bi_length, hexL_length]; simp; omega
      have HL := Aside0.mk hlen; clear hlen
      have hb := l[k].toNat_lt
      have h16 := u8_div16 l[k]
      have h15 := u8_and15' l[k]
      obtain ⟨d1, hd1, hl1⟩ : ∃ d1, l[k].toNat / 16 = d1 ∧ d1 < 16 := ⟨_, rfl, by omega⟩
      obtain ⟨d2, hd2, hl2⟩ : ∃ d2, l[k].toNat % 16 = d2 ∧ d2 < 16 := ⟨_, rfl, by omega⟩
      rw [hd1] at h16
      rw [hd2] at h15
      rw [hd1, hd2] at HT
      clear hd1 hd2 hb
      have hix1 := fun w => hex_index8 d1 hl1 w
      have hix2 := fun w => hex_index8 d2 hl2 w
      go_wp2_with fail
      have HV1 : Aside0 (Mine (wr.drew.alloc (.cells #[.int .u8 ((hexOf (d1)).toNat : Int), .int .u8 ((hexOf (d2)).toNat : Int)] 5)) w.heap.size u3 (bi (hexL (l.take k)))) := ⟨HV.out.fr ((Fr.refl No wr).drew.alloc _) (fun _ _ => id)⟩
      have HF1 : Aside0 (Fr No w (wr.drew.alloc (.cells #[.int .u8 ((hexOf (d1)).toNat : Int), .int .u8 ((hexOf (d2)).toNat : Int)] 5))) := ⟨HF.out.drew.alloc _⟩
      have HC := Aside0.mk (hexes_reads wr.drew (hexOf (d1)) (hexOf (d2)))
      go_region_held3 (fun w' => True) (trivial)
        ((refine app_row_step (by rfl) _ _ 22 (by rfl) Tryd.underlying22 infoU8 u3 (bi (hexL (l.take k))) (bi [hexOf (d1), hexOf (d2)]) _ 2 2 (by rfl) (by rfl) HV1.out HC.out HF1.out (by rw [HL.out]; omega) ?_; intro v1 w1 hm hf hg))
      all_goals
        go_wp2
        exact ⟨⟨k + 1, by omega, by go_num, ⟨by rw [HT.out, bi_append]; exact hm⟩, ⟨hf⟩⟩, by simp [intOf]; omega⟩
    · obtain rfl : k = l.length := by omega
      have hall : l.take l.length = l := List.take_length
      rw [hall] at HV
      clear hall
      obtain ⟨D, cd, hD, hcd, hrd⟩ := HV.out.reads
      have hcv := Kd.C_string (P := Tryd.prog) (c := cd) Tryd.underlying22 Tryd.underlying5 Tryd.underlying9 hrd
      subst hD
      clear HV hrd hcd
      go_wp2
      go_ret
      exact ⟨congrArg (fun z => Ending.returned (.string z)) (str_bi _), HF.out⟩
theorem u8_tdiv16 (b : UInt8) : (Int.tdiv (un (b2w b)) 16) % 256 = ((b.toNat / 16 : Nat) : Int) := by
  rw [un_b2w, Int.tdiv_eq_ediv_of_nonneg (by omega)]; have := b.toNat_lt; omega
theorem u8_tmod16 (b : UInt8) : Int.tmod (un (b2w b)) 16 = ((b.toNat % 16 : Nat) : Int) := by
  rw [un_b2w, Int.tmod_eq_emod_of_nonneg (by omega)]; omega
set_option maxRecDepth 100000 in
set_option maxHeartbeats 1000000 in
theorem refHex_calls (l : List UInt8) (A : Option Addr) (c : Nat) (w : World) (hr : Rb w A l) (hl : l.length ≤ 1048576) :
    Calls Tryd.prog 30 #[.slice A l.length c] w fun e w' => e = .returned (.string ⟨(hexL l).toArray⟩) ∧ Fr No w w' := by
  have HR := Aside0.mk hr
  clear hr
  go_enter Tryd.func30, Tryd.ntmps30
  go_wp2
  go_loopw [3, 4] (fun v i wr => ∃ k : Nat, k ≤ l.length ∧ i = .int .i64 k ∧ Aside0 (Mine wr w.heap.size v (bi (hexL (l.take k)))) ∧ Aside0 (Fr No w wr)) (fun _ i _ => l.length - (intOf i).toNat)
  case atStart => exact ⟨0, by omega, rfl, ⟨Mine.nil _ _⟩, ⟨Fr.refl _ _⟩⟩
  case round =>
    obtain ⟨k, hk, rfl, HV, HF⟩ := hrel
    by_cases hlt : k < l.length
    · obtain ⟨ad, hA, hcw⟩ := C_byte HR.out k hlt
      subst hA
      have hcell := HF.out.cell hcw id
      replace hcw := Aside0.mk hcw
      have HT := Aside0.mk (hexL_take l k hlt)
      have hlen : (bi (hexL (l.take k))).length = 2 * k := by rw [bi_length, hexL_length]; simp; omega
      have HL := Aside0.mk hlen; clear hlen
      have hb := l[k].toNat_lt
      have h16 := u8_tdiv16 l[k]
      have h15 := u8_tmod16 l[k]
      have h16w : IntKind.u8.wrap (Int.tdiv (un (b2w l[k])) 16) = ((l[k].toNat / 16 : Nat) : Int) := by rw [IntKind.wrap_u8]; exact h16
      obtain ⟨d1, hd1, hl1⟩ : ∃ d1, l[k].toNat / 16 = d1 ∧ d1 < 16 := ⟨_, rfl, by omega⟩
      obtain ⟨d2, hd2, hl2⟩ : ∃ d2, l[k].toNat % 16 = d2 ∧ d2 < 16 := ⟨_, rfl, by omega⟩
      rw [hd1] at h16 h16w
      rw [hd2] at h15
      rw [hd1, hd2] at HT
      clear hd1 hd2 hb
      have hix1 := fun w => hex_index8 d1 hl1 w
      have hix2 := fun w => hex_index8 d2 hl2 w
      have hk0 : (0 : Int) ≤ (k : Int) := by omega
      have hk1 : (k : Int) < (l.length : Int) := by omega
      go_wp2_with fail
      have HV1 : Aside0 (Mine (wr.drew.alloc (.cells #[.int .u8 ((hexOf d1).toNat : Int), .int .u8 ((hexOf d2).toNat : Int)] 5)) w.heap.size u3 (bi (hexL (l.take k)))) := ⟨HV.out.fr ((Fr.refl No wr).drew.alloc _) (fun _ _ => id)⟩
      have HF1 : Aside0 (Fr No w (wr.drew.alloc (.cells #[.int .u8 ((hexOf d1).toNat : Int), .int .u8 ((hexOf d2).toNat : Int)] 5))) := ⟨HF.out.drew.alloc _⟩
      have HC := Aside0.mk (hexes_reads wr.drew (hexOf d1) (hexOf d2))
      go_region_held3 (fun w' => w'.cell? (ad.add k) = some (.int .u8 (un (b2w l[k])))) (first | go_keep | exact hf.cell hcw.out id)
        ((refine app_row_step (by rfl) _ _ 22 (by rfl) Tryd.underlying22 infoU8 u3 (bi (hexL (l.take k))) (bi [hexOf d1, hexOf d2]) _ 2 2 (by rfl) (by rfl) HV1.out HC.out HF1.out (by rw [HL.out]; omega) ?_; intro v1 w1 hm hf hg))
      all_goals
        go_wp2
        exact ⟨⟨k + 1, by omega, by go_num, ⟨by rw [HT.out, bi_append]; exact hm⟩, ⟨hf⟩⟩, by simp [intOf]; omega⟩
    · obtain rfl : k = l.length := by omega
      have hall : l.take l.length = l := List.take_length
      rw [hall] at HV
      clear hall
      obtain ⟨D, cd, hD, hcd, hrd⟩ := HV.out.reads
      have hcv := Kd.C_string (P := Tryd.prog) (c := cd) Tryd.underlying22 Tryd.underlying5 Tryd.underlying9 hrd
      subst hD
      clear HV hrd hcd
      go_wp2
      go_ret
      exact ⟨congrArg (fun z => Ending.returned (.string z)) (str_bi _), HF.out⟩
end Go.Proofs.YtbaeddppihjgfaaDoor.Sg
namespace Go.Proofs.YtbaeddppihjgfaaDoor.Sg
open Go Go.RowKit Go.Proofs.YtbaeddppihjgfaaDoorW.PrintWords
set_option linter.unusedVariables false
theorem index_str (L : List UInt8) (i : Nat) (h : i < L.length) (w : World) : (Instr.index 9 (.string ⟨L.toArray⟩) (.int .i64 (i : Int))).run Tryd.prog w = .ok (.int .u8 (L[i].toNat : Int)) w := by
  have hs : i < (⟨L.toArray⟩ : ByteArray).size := by simpa [ByteArray.size] using h
  have h0 : (0 : Int) ≤ (i : Int) := by omega
  have h1 : (i : Int) < ((⟨L.toArray⟩ : ByteArray).size : Int) := by omega
  rw [run_index_string _ _ _ _ _ Tryd.underlying9, dif_pos ⟨h0, h1⟩]
  rfl
def UnhexPost (L : List UInt8) (w : World) (e : Ending) (w' : World) : Prop :=
  Fr No w w' ∧ ((∃ v m, unhexL L = some m ∧ e = .returned (.tuple #[v, .int .i64 0]) ∧ Mine w' w.heap.size v (bi m)) ∨ (unhexL L = none ∧ e = .returned (.tuple #[.slice none 0 0, .int .i64 31])))
theorem wv_some (j : Nat) : wv (some j) = (j : Int) := rfl
theorem or16 (i j : Nat) (hi : i < 16) (hj : j < 16) : bits .or .i64 ((i : Int) * 16) (j : Int) % 256 = ((UInt8.ofNat (16 * i + j)).toNat : Int) := by
  have h : ∀ i j : Fin 16, bits .or .i64 ((i.val : Int) * 16) (j.val : Int) % 256 = ((UInt8.ofNat (16 * i.val + j.val)).toNat : Int) := by decide +kernel
  exact h ⟨i, hi⟩ ⟨j, hj⟩
set_option maxRecDepth 100000 in
set_option maxHeartbeats 1000000 in
theorem unhex_calls (L : List UInt8) (w : World) (hl : L.length ≤ 2097152) :
    Calls Tryd.prog 49 #[.string ⟨L.toArray⟩] w (UnhexPost L w) := by
  have hsz : (⟨L.toArray⟩ : ByteArray).size = L.length := by simp [ByteArray.size]
  by_cases hodd : L.length % 2 = 1
  · have HO := Aside0.mk (unhex_odd L hodd)
    go_enter Tryd.func49, Tryd.ntmps49
    go_wp2
    go_ret2
    exact ⟨Fr.refl _ _, .inr ⟨HO.out, rfl⟩⟩
  · obtain ⟨n, hn⟩ : ∃ n, L.length = 2 * n := ⟨L.length / 2, by omega⟩
    have HN := Aside0.mk hn
    have hev : (L.length : Int) = 2 * (n : Int) := by omega
    clear hodd
    have hmk := make0 (P := Tryd.prog) 22 Tryd.underlying22 infoU8 n (by omega)
    have HM := Aside0.mk (mine_made w n w.heap.size (Nat.le_refl _) (by simp [maxLen]; omega))
    have HF0 : Aside0 (Fr No w (w.alloc (.cells (madeCells #[.int .u8 0] n) 5))) := ⟨(Fr.refl No w).alloc _⟩
    clear hn
    have hm2 : (2 * (n : Int)) % 2 = 0 := by omega
    have hd2 : (2 * (n : Int)) / 2 = (n : Int) := by omega
    have hb2 : ((2 * (n : Int)) % 2 != 0) = false := by rw [hm2]; rfl
    go_enter Tryd.func49, Tryd.ntmps49
    go_wp2
    go_loopw [4, 5] (fun v i wr => ∃ (k : Nat) (m : List UInt8), k ≤ n ∧ i = .int .i64 (2 * (k : Int)) ∧ Aside0 (m.length = k) ∧ Aside0 (unhexL (L.take (2 * k)) = some m) ∧ Aside0 (Mine wr w.heap.size v (bi m)) ∧ Aside0 (Fr No w wr)) (fun _ i _ => 2 * n - (intOf i).toNat)
    case atStart => exact ⟨0, [], by omega, rfl, ⟨rfl⟩, ⟨rfl⟩, HM, HF0⟩
    case round =>
      clear HM HF0 hmk
      obtain ⟨k, m, hk, rfl, HL, HU, HV, HF⟩ := hrel
      by_cases hlt : k < n
      · have hk2 : 2 * k + 1 < L.length := by have := HN.out; omega
        have hix1 := fun w => index_str L (2 * k) (by omega) w
        have hix2 := fun w => index_str L (2 * k + 1) hk2 w
        have e1 : ((2 * k : Nat) : Int) = 2 * (k : Int) := by omega
        have e2 : ((2 * k + 1 : Nat) : Int) = 2 * (k : Int) + 1 := by omega
        rw [e1] at hix1
        rw [e2] at hix2
        clear e1 e2
        have HGO := Aside0.mk (unhex_go k L m HU.out hk2)
        have HST := Aside0.mk (unhex_stop k L m HU.out hk2)
        generalize L[2 * k] = x at *
        generalize L[2 * k + 1] = y at *
        have hwr : IntKind.i64.wrap (2 * (k : Int) + 1) = 2 * (k : Int) + 1 := IntWalk.i64_in _ (by omega)
        go_wp2_with fail
        go_quiet ((go_at_call 72; refine (worth_calls _ _).mono ?_; rintro e w' ⟨rfl, rfl⟩; exact ⟨rfl, _, rfl⟩))
        have HF1 : Aside0 (Fr No w (wr.drewN nq)) := ⟨HF.out.drewN nq⟩
        have HV1 : Aside0 (Mine (wr.drewN nq) w.heap.size u4 (bi m)) := ⟨HV.out⟩
        cases h1 : worthN x with
        | none =>
          have HS := Aside0.mk (HST.out (.inl h1))
          have hq : decide (wv none < 0) = true := rfl
          clear h1
          go_wp2
          go_ret2
          exact ⟨HF1.out, .inr ⟨HS.out, rfl⟩⟩
        | some i =>
          have hi := worthN_lt h1
          have hi0 : decide ((i : Int) < 0) = false := decide_eq_false (by omega)
          have hwi := wv_some i
          cases h2 : worthN y with
          | none =>
            have HS := Aside0.mk (HST.out (.inr h2))
            clear h1 h2
            have hq : decide (wv none < 0) = true := rfl
            go_wp2
            go_ret2
            exact ⟨HF1.out, .inr ⟨HS.out, rfl⟩⟩
          | some j =>
            have hj := worthN_lt h2
            have HG := Aside0.mk (HGO.out i j h1 h2)
            have hwj := wv_some j
            have hj0 : decide ((j : Int) < 0) = false := decide_eq_false (by omega)
            clear h1 h2
            have hor := or16 i j hi hj
            go_wp2_with (at_builtin; refine app_byte rfl (.tmp 37) (.tmp 43) 22 rfl Tryd.underlying22 infoU8 _ (bi m) _ rfl rfl HV1.out HF1.out (by rw [bi_length, HL.out]; omega) ?_)
            intro v1 w1 hm hf hg
            have HV2 : Aside0 (Mine w1 w.heap.size v1 (bi (m ++ two i j []))) := ⟨by rw [bi_append]; exact hm⟩
            have HF2 := Aside0.mk hf
            clear hm hf hg hor hwi hwj hi0 hj0
            go_wp2
            exact ⟨⟨k + 1, m ++ two i j [], by omega, by congr 1, ⟨by rw [List.length_append, HL.out]; rfl⟩, HG, HV2, HF2⟩, by simp [intOf]; omega⟩
      · obtain rfl : k = n := by omega
        have HT : Aside0 (unhexL L = some m) := ⟨by have := HU.out; rwa [List.take_of_length_le (by have := HN.out; omega)] at this⟩
        go_wp2
        go_ret2
        exact ⟨HF.out, .inl ⟨_, m, HT.out, rfl, HV.out⟩⟩
end Go.Proofs.YtbaeddppihjgfaaDoor.Sg
