/- The walk of the law DigestKnown. -/
import Derived.Test.YtbaeddppihjgfaaDoorKnownMem
import Derived.Test.YtbaeddppihjgfaaDoorPiecesWalk
namespace Go.Proofs.YtbaeddppihjgfaaDoor.Sg
open Go Go.RowKit Go.Proofs.YtbaeddppihjgfaaDoorW.PrintWords
set_option linter.unusedVariables false
theorem mem_made (w0 w : World) (i : Nat) (hb : w0.heap.size ≤ w.heap.size) (C : Array Value) (hC : C = byC (knO i)) : MemV w0 (w.alloc (.cells C 5)) i (.slice (some ⟨w.heap.size, 0, none⟩) (knN i) (knN i)) := by
  subst hC
  exact ⟨_, rfl, hb, heap_new_HB w _ _⟩
theorem made_zeros (n : Nat) : madeCells #[.int .u8 0] n = byC (List.replicate n 0) := by
  apply Array.ext
  · simp [madeCells, nums, bi]
  · intro i h1 h2
    simp [madeCells, nums, bi, Nat.mod_one]
def strC (ls : List (List UInt8)) : Array Value := (ls.map fun l => Value.string ⟨l.toArray⟩).toArray
theorem known_cell {w w1 : World} {B : Nat} (h : HB w B (strC khs) 9) (hf : Fr No w w1) (k : Nat) (hk : k < 7) : w1.cell? ⟨B, k, none⟩ = some (.string ⟨(khs.getD k []).toArray⟩) := by
  obtain ⟨m, hb⟩ := h
  refine hf.cell ?_ id
  have hk2 : k < khs.length := hk
  simp [World.cell?, hb, strC, hk2]
theorem zeros_reads (w : World) (n : Nat) (hn : n ≤ 9223372036854775807) : Rb (w.alloc (.cells (madeCells #[.int .u8 0] n) 5)) (some ⟨w.heap.size, 0, none⟩) (List.replicate n 0) := by
  have h := heap_new_HB w (byC (List.replicate n 0)) 5
  rw [← made_zeros] at h
  rw [made_zeros] at h ⊢
  exact h.reads (by simpa using hn)
theorem zeros_crc : un (crcW (List.replicate 32 0)) = 2324772522 := by decide +kernel
theorem nil_crc : un (crcW []) = 0 := by decide +kernel
theorem kns_small (k : Nat) (hk : k < 7) : (kns[k]'hk).length ≤ 1000 := by
  have : k = 0 ∨ k = 1 ∨ k = 2 ∨ k = 3 ∨ k = 4 ∨ k = 5 ∨ k = 6 := by omega
  have e : ∀ l, kns[k]? = some l → l.length ≤ 1000 → (kns[k]'hk).length ≤ 1000 := fun l h1 h2 => by
    rw [List.getElem?_eq_getElem hk] at h1
    rw [Option.some.inj h1]; exact h2
  rcases this with rfl | rfl | rfl | rfl | rfl | rfl | rfl
  · exact e kn0 rfl (by decide)
  · exact e kn1 rfl (by decide)
  · exact e kn2 rfl (by decide)
  · exact e kn3 rfl (by decide)
  · exact e kn4 rfl (by decide)
  · exact e kn5 rfl (by decide)
  · exact e kn6 rfl (by rw [kns6_l]; decide)
theorem kns_hex' (k : Nat) (hk : k < 7) : hexL (sha (kns[k]'hk)) = khs.getD k [] := by
  rw [← kns_hex k hk, List.getD_eq_getElem?_getD, List.getElem?_eq_getElem hk]
  rfl
set_option maxRecDepth 100000 in
set_option maxHeartbeats 4000000 in
theorem known_walk (w : World) (hK : KAt w) (hF : FirstAt w) (hT : TurnsAt w) :
    Calls Tryd.prog 9 #[] w fun e w' => e = .returned (.bool true) ∧ Fr No w w' := by
  have HT := Aside0.mk (And.intro hT (And.intro hK hF))
  have hcv := fun (w : World) (C : Array Value) (n c : Nat) => Lib.run_convert_bytes_const (P := Tryd.prog) w 22 5 C n c Tryd.underlying22 Tryd.underlying5
  clear hT hK hF
  go_enter Tryd.func9, Tryd.ntmps9
  go_wp2
  go_loopw [1, 2] (fun v i wr => ∃ k : Nat, k ≤ 1000 ∧ i = .int .i64 k ∧ Aside0 (Mine wr w.heap.size v (bi (sevL k))) ∧ Aside0 (Fr No w wr)) (fun _ i _ => 1000 - (intOf i).toNat)
  case atStart => exact ⟨0, by omega, rfl, ⟨Mine.nil _ _⟩, ⟨Fr.refl _ _⟩⟩
  case round =>
    obtain ⟨k, hk, rfl, HV, HF⟩ := hrel
    by_cases hlt : k < 1000
    · have HLL : Aside0 ((bi (sevL k)).length + 1 ≤ 140737488355328) := ⟨by rw [bi_length, sevL_length]; omega⟩
      go_wp2_with (at_builtin; refine app_byte (w0 := w) rfl (.tmp 14) (.tmp 18) 22 rfl Tryd.underlying22 infoU8 _ (bi (sevL k)) ((7 * (k : Int)) % 256) rfl rfl HV.out HF.out HLL.out ?_; intro v1 w1 hm hf hg)
      rw [← sevL_succ] at hm
      exact ⟨⟨k + 1, by omega, by go_num, ⟨hm⟩, ⟨hf⟩⟩, by simp [intOf]; omega⟩
    · obtain rfl : k = 1000 := by omega
      obtain ⟨A, c, hA, hc, hr⟩ := HV.out.reads
      rw [sevL_length] at *
      subst hA
      have HR := Aside0.mk hr; have HC := Aside0.mk hc
      clear hr hc HV hk hlt
      go_wp2_with fail
      refine wp_region_any (by kernel_rfl) (wpAny_inv (fun listed a W => ∃ vs : Nat → Value, a = { tmps := #[.bool false, .slice A 1000 c, .int .i64 (1000 : Int), vs 3, undef, undef, undef, undef, undef, undef, .int .i64 (1000 : Int), .bool false, u12, u13, u14, u15, u16, u17, u18, u19, vs 20, vs 21, vs 22, vs 23, vs 24, vs 25, vs 26, vs 27, vs 28, undef, undef, undef, undef, undef, undef, undef, undef, undef, undef, undef, undef, undef, undef, undef, undef, undef, undef, undef, undef, undef, undef, undef, undef, undef, undef, undef, undef, undef, undef, undef, undef, undef, undef, undef, undef, undef, undef, undef, undef, undef, undef, undef, undef, undef, undef, undef], defers := [] } ∧ KJ wr (.slice A 1000 c) listed vs W) ?_ ?_ _ _ _ _ ?_ ?_)
      case refine_3 => decide +kernel
      case refine_4 =>
        have hn : ∀ i, (Array.replicate 10 false).getD i false = true → False := fun i hl => by
          rw [Array.getD_eq_getD_getElem?, Array.getElem?_replicate] at hl
          split at hl <;> cases hl
        exact ⟨fun _ => undef, rfl, ⟨rfl, (Fr.refl No wr).drew, fun i hi hl => (hn _ hl).elim, fun hl => (hn _ hl).elim, fun hl => (hn _ hl).elim, fun hl => (hn _ hl).elim⟩⟩
      case refine_2 =>
        clear HT HF HR HC hcv
        rintro listed a W i o ⟨vs, rfl, hj⟩ ho hu hb
        have hlt : i < 10 := (Array.getElem?_eq_some_iff.1 ho).1
        have hz : wr.heap.size ≤ W.heap.size := hj.fr.size
        have : i = 0 ∨ i = 1 ∨ i = 2 ∨ i = 3 ∨ i = 4 ∨ i = 5 ∨ i = 6 ∨ i = 7 ∨ i = 8 ∨ i = 9 := by omega
        rcases this with rfl | rfl | rfl | rfl | rfl | rfl | rfl | rfl | rfl | rfl
        · refine wpOp_of ho (by obtain rfl := Option.some.inj (show some _ = some o from ho); rfl) ?_
          obtain rfl := Option.some.inj (show some _ = some o from ho)
          clear hb
          go_simp
          exact ⟨fun k => if k = 20 + 0 then _ else vs k, by simp [knN], hj.mem_step 0 (by omega) (St.alloc _ _) (hj.fr.alloc _) (mem_made wr W 0 hz _ (by rfl))⟩
        · refine wpOp_of ho (by obtain rfl := Option.some.inj (show some _ = some o from ho); rfl) ?_
          obtain rfl := Option.some.inj (show some _ = some o from ho)
          obtain ⟨b, h20, hb0, hB⟩ := hj.mem 0 (by omega) (hb ⟨0, .data⟩ (by simp) rfl)
          have hcv := run_convert_marked (P := Tryd.prog) W 22 5 _ b (knN 0) (knN 0) Tryd.underlying22 Tryd.underlying5 hB
          simp only [Nat.add_zero, Nat.reduceAdd] at h20
          clear hb
          go_simp
          exact ⟨fun k => if k = 20 + 1 then vs (20 + 0) else vs k, by simp [h20], hj.mem_step 1 (by omega) (St.freeze _ _ _) (hj.fr.freeze 1 (.inr hb0)) ⟨b, by rw [show knN 1 = knN 0 from rfl]; simpa using h20, hb0, St.freeze _ _ _ _ _ _ hB⟩⟩
        · refine wpOp_of ho (by obtain rfl := Option.some.inj (show some _ = some o from ho); rfl) ?_
          obtain rfl := Option.some.inj (show some _ = some o from ho)
          clear hb
          go_simp
          exact ⟨fun k => if k = 20 + 2 then _ else vs k, by simp [knN], hj.mem_step 2 (by omega) (St.alloc _ _) (hj.fr.alloc _) (mem_made wr W 2 hz _ (by rfl))⟩
        · refine wpOp_of ho (by obtain rfl := Option.some.inj (show some _ = some o from ho); rfl) ?_
          obtain rfl := Option.some.inj (show some _ = some o from ho)
          obtain ⟨b, h20, hb0, hB⟩ := hj.mem 2 (by omega) (hb ⟨2, .data⟩ (by simp) rfl)
          have hcv := run_convert_marked (P := Tryd.prog) W 22 5 _ b (knN 2) (knN 2) Tryd.underlying22 Tryd.underlying5 hB
          simp only [Nat.add_zero, Nat.reduceAdd] at h20
          clear hb
          go_simp
          exact ⟨fun k => if k = 20 + 3 then vs (20 + 2) else vs k, by simp [h20], hj.mem_step 3 (by omega) (St.freeze _ _ _) (hj.fr.freeze 1 (.inr hb0)) ⟨b, by rw [show knN 3 = knN 2 from rfl]; simpa using h20, hb0, St.freeze _ _ _ _ _ _ hB⟩⟩
        · refine wpOp_of ho (by obtain rfl := Option.some.inj (show some _ = some o from ho); rfl) ?_
          obtain rfl := Option.some.inj (show some _ = some o from ho)
          have hmk := print_make_of (P := Tryd.prog) 22 5 (.int .u8 0) 1 Tryd.underlying22 infoU8 rfl (by decide) 55 (by omega) W
          have HMZ := Aside0.mk (mem_made wr W 4 hz _ (made_zeros 55))
          clear hb
          go_simp
          exact ⟨fun k => if k = 20 + 4 then _ else vs k, by simp [Act.put, knN, show (IntKind.i64.wrap 55).toNat = 55 from rfl], hj.mem_step 4 (by omega) (St.alloc _ _) (hj.fr.alloc _) HMZ.out⟩
        · refine wpOp_of ho (by obtain rfl := Option.some.inj (show some _ = some o from ho); rfl) ?_
          obtain rfl := Option.some.inj (show some _ = some o from ho)
          have hmk := print_make_of (P := Tryd.prog) 22 5 (.int .u8 0) 1 Tryd.underlying22 infoU8 rfl (by decide) 56 (by omega) W
          have HMZ := Aside0.mk (mem_made wr W 5 hz _ (made_zeros 56))
          clear hb
          go_simp
          exact ⟨fun k => if k = 20 + 5 then _ else vs k, by simp [Act.put, knN, show (IntKind.i64.wrap 56).toNat = 56 from rfl], hj.mem_step 5 (by omega) (St.alloc _ _) (hj.fr.alloc _) HMZ.out⟩
        · refine wpOp_of ho (by obtain rfl := Option.some.inj (show some _ = some o from ho); rfl) ?_
          obtain rfl := Option.some.inj (show some _ = some o from ho)
          have hmk := print_make_of (P := Tryd.prog) 22 5 (.int .u8 0) 1 Tryd.underlying22 infoU8 rfl (by decide) 64 (by omega) W
          have HMZ := Aside0.mk (mem_made wr W 6 hz _ (made_zeros 64))
          clear hb
          go_simp
          exact ⟨fun k => if k = 20 + 6 then _ else vs k, by simp [Act.put, knN, show (IntKind.i64.wrap 64).toNat = 64 from rfl], hj.mem_step 6 (by omega) (St.alloc _ _) (hj.fr.alloc _) HMZ.out⟩
        · refine wpOp_of ho (by obtain rfl := Option.some.inj (show some _ = some o from ho); rfl) ?_
          obtain rfl := Option.some.inj (show some _ = some o from ho)
          clear hb
          go_simp
          exact ⟨fun k => if k = 27 then _ else vs k, by simp, hj.mv_step⟩
        · refine wpOp_of ho (by obtain rfl := Option.some.inj (show some _ = some o from ho); rfl) ?_
          obtain rfl := Option.some.inj (show some _ = some o from ho)
          have g1 := hj.mem 1 (by omega) (hb ⟨1, .data⟩ (by simp) rfl)
          have g3 := hj.mem 3 (by omega) (hb ⟨3, .data⟩ (by simp) rfl)
          have g4 := hj.mem 4 (by omega) (hb ⟨4, .data⟩ (by simp) rfl)
          have g5 := hj.mem 5 (by omega) (hb ⟨5, .data⟩ (by simp) rfl)
          have g6 := hj.mem 6 (by omega) (hb ⟨6, .data⟩ (by simp) rfl)
          have g7 := hj.mv (hb ⟨7, .data⟩ (by simp) rfl)
          have e1 := g1; have e3 := g3; have e4 := g4; have e5 := g5; have e6 := g6
          obtain ⟨b1, e1, -⟩ := e1; obtain ⟨b3, e3, -⟩ := e3; obtain ⟨b4, e4, -⟩ := e4; obtain ⟨b5, e5, -⟩ := e5; obtain ⟨b6, e6, -⟩ := e6
          rw [e1] at g1; rw [e3] at g3; rw [e4] at g4; rw [e5] at g5; rw [e6] at g6
          simp only [Nat.reduceAdd] at e1 e3 e4 e5 e6
          have HG := Aside0.mk (And.intro g1 (And.intro g3 (And.intro g4 (And.intro g5 g6))))
          clear hb g1 g3 g4 g5 g6
          go_simp
          have hs := St.alloc W (.cells #[.slice none 0 0, .slice (some ⟨b1, 0, none⟩) (knN 1) (knN 1), .slice (some ⟨b3, 0, none⟩) (knN 3) (knN 3), .slice (some ⟨b4, 0, none⟩) (knN 4) (knN 4), .slice (some ⟨b5, 0, none⟩) (knN 5) (knN 5), .slice (some ⟨b6, 0, none⟩) (knN 6) (knN 6), .slice A 1000 c] 22)
          obtain ⟨g1, g3, g4, g5, g6⟩ := HG.out
          exact ⟨fun k => if k = 28 then .slice (some ⟨W.heap.size, 0, none⟩) 7 7 else vs k, by simp [e1, e3, e4, e5, e6, g7], hj.out_step (St.alloc _ _) (hj.fr.alloc _) ⟨_, _, _, _, _, _, rfl, heap_new_HB W _ _, g1.st hs, g3.st hs, g4.st hs, g5.st hs, g6.st hs⟩⟩
        · refine wpOp_of ho (by obtain rfl := Option.some.inj (show some _ = some o from ho); rfl) ?_
          obtain rfl := Option.some.inj (show some _ = some o from ho)
          have h8 := hb ⟨8, .data⟩ (by simp) rfl
          clear hb
          go_simp
          exact ⟨fun k => if k = 3 then vs 28 else vs k, by simp, hj.asg_step h8⟩
      case refine_1 =>
        rintro listed a W ⟨vs, rfl, hj⟩ hr
        have hall := ready_all (by decide +kernel) hj.size hr
        have h9 := hj.asg (hall 9 (by decide +kernel))
        have hf := hj.fr
        clear hall hr hj
        obtain ⟨g, hg, hrs⟩ := h9.reads HC.out (C_fr HR.out hf)
        have HF2 : Aside0 (Fr No w W) := ⟨HF.out.then_ hf⟩
        have HRS := Aside0.mk hrs
        clear h9 hf hrs HF HR
        generalize vs 3 = x3 at *
        generalize vs 20 = x20 at *
        generalize vs 21 = x21 at *
        generalize vs 22 = x22 at *
        generalize vs 23 = x23 at *
        generalize vs 24 = x24 at *
        generalize vs 25 = x25 at *
        generalize vs 26 = x26 at *
        generalize vs 27 = x27 at *
        generalize vs 28 = x28 at *
        clear vs
        subst hg
        go_wp2_with fail
        generalize hV : W.alloc _ = V
        have hX : HB V W.heap.size (strC khs) 9 := by rw [← hV]; exact heap_new_HB W _ _
        have hfv : Fr No W V := by rw [← hV]; exact (Fr.refl No W).alloc _
        have HX := Aside0.mk hX
        have HFV : Aside0 (Fr No w V) := ⟨HF2.out.then_ hfv⟩
        have HRV : Aside0 (Rbs V (some ⟨g, 0, none⟩) kns) := ⟨HRS.out.fr hfv⟩
        clear hX hfv hV HF2 HRS
        generalize W.heap.size = B at *
        clear W
        go_loopw [5] (fun i wl => ∃ k : Nat, k ≤ 7 ∧ i = .int .i64 k ∧ Aside0 (Fr No V wl)) (fun i _ => 7 - (intOf i).toNat)
        case atStart => exact ⟨0, by omega, rfl, ⟨Fr.refl _ _⟩⟩
        case round =>
          obtain ⟨k, hk, rfl, HG⟩ := hrel
          have hrel4 := HG
          by_cases hlt : k < 7
          · obtain ⟨ad, Ai, ci, hA, hcell, hci, hrb⟩ := (HRV.out.fr HG.out).at_ k hlt
            have hcs := known_cell (HX.out) HG.out k hlt
            obtain rfl : ad = ⟨g, 0, none⟩ := (Option.some.inj hA).symm
            replace hcell : wr.cell? ⟨g, k, none⟩ = some (.slice Ai (kns[k]'hlt).length ci) := by simpa [add_plain] using hcell
            have HRB := Aside0.mk hrb
            have hsm := kns_small k hlt
            have hxx := Aside0.mk (kns_hex' k hlt)
            clear hrb hA
            clear hrel4
            generalize kns[k]'hlt = l at *
            go_wp2_with fail
            refine (digest_calls l Ai ci wr hci HRB.out (by omega) (HT.out.2.1.fr (HFV.out.then_ HG.out) id) (HT.out.2.2.fr (HFV.out.then_ HG.out) id)).mono ?_
            rintro e w2 ⟨v, rfl, hm, hf⟩
            obtain ⟨D, cd, rfl, hcd, hrd⟩ := hm.reads
            have HRD := Aside0.mk hrd
            have hln : Aside0 ((sha l).length ≤ 1048576) := ⟨by rw [sha_length]; decide⟩
            have HG2 : Aside0 (Fr No V w2) := ⟨HG.out.then_ hf⟩
            have hcs2 := hf.cell hcs id
            clear hm hf hrd HRB hcs hcell HG hcd
            rw [← hxx.out] at hcs2
            clear hxx
            generalize sha l = d at *
            have hcs3 : w2.drew.cell? ⟨B, k, none⟩ = some (.string ⟨(hexL d).toArray⟩) := hcs2
            have HRE : Aside0 (Rb w2.drew D d) := ⟨C_fr HRD.out (Fr.refl No w2).drew⟩
            have HGE : Aside0 (Fr No V w2.drew) := ⟨HG2.out.drew⟩
            go_wp2_with fail
            go_region_with (go_at_call 30; refine (refHex_calls d D cd _ HRE.out hln.out).mono ?_; rintro e w4 ⟨rfl, hf⟩; have hcs4 := hf.cell hcs3 id; have HG4 : Aside0 (Fr No V w4) := ⟨HGE.out.then_ hf⟩; clear hf)
            all_goals
              go_wp2_with fail
              exact ⟨⟨k + 1, by omega, by go_num, HG4⟩, by simp [intOf]; omega⟩
          · obtain rfl : k = 7 := by omega
            have HFW : Aside0 (Fr No w wr) := ⟨HFV.out.then_ hrel4.out⟩
            clear HRV HX HFV hrel4 HG
            go_wp2_with fail
            have HF1 : Aside0 (Fr No w (wr.alloc (.cells nineC 5 (9, 10)))) := ⟨HFW.out.alloc _⟩
            have HR1 := Aside0.mk (nine_reads wr)
            refine (nine_calls _ _ HR1.out (HT.out.1.fr HF1.out id)).mono ?_
            rintro e w2 ⟨rfl, rfl⟩
            clear HR1
            generalize wr.alloc (.cells nineC 5 (9, 10)) = w2 at *
            have hmk : (Instr.makeSlice 22 (.int .i64 (32 : Int)) (.int .i64 (32 : Int))).run Tryd.prog w2 = .ok (.slice (some ⟨w2.heap.size, 0, none⟩) 32 32) (w2.alloc (.cells (madeCells #[.int .u8 0] 32) 5)) := print_make_of (P := Tryd.prog) 22 5 (.int .u8 0) 1 Tryd.underlying22 infoU8 rfl (by decide) 32 (by omega) w2
            have HM := Aside0.mk (zeros_reads w2 32 (by omega))
            have HF2 : Aside0 (Fr No w (w2.alloc (.cells (madeCells #[.int .u8 0] 32) 5))) := ⟨HF1.out.alloc _⟩
            go_wp2_with fail
            refine (crc_at (List.replicate 32 0) 32 (List.length_replicate ..) _ 32 _ HM.out (HT.out.1.fr HF2.out id)).mono ?_
            rintro e w3 ⟨rfl, rfl⟩
            rw [zeros_crc]
            clear hmk HM
            generalize w2.alloc (.cells (madeCells #[.int .u8 0] 32) 5) = w3 at *
            go_wp2_with fail
            refine (crc_at [] 0 rfl none 0 w3 (Rb_nil0 w3) (HT.out.1.fr HF2.out id)).mono ?_
            rintro e w4 ⟨rfl, rfl⟩
            rw [nil_crc]
            go_wp2
            go_ret
            exact ⟨rfl, HF2.out⟩
end Go.Proofs.YtbaeddppihjgfaaDoor.Sg
