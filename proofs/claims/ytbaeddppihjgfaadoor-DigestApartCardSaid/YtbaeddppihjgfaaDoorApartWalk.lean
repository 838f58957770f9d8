/- The walk of the law DigestApart. -/
import Derived.Test.YtbaeddppihjgfaaDoorApartLaw
import Derived.Test.YtbaeddppihjgfaaDoorDomainB
import Derived.Test.YtbaeddppihjgfaaDoorRoomsC
namespace Go.Proofs.YtbaeddppihjgfaaDoor.Sg
open Go Go.RowKit Go.Proofs.YtbaeddppihjgfaaDoorW.PrintWords
set_option linter.unusedVariables false
theorem numA_calls (n : Int) (w : World) : Calls Tryd.prog 34 #[.int .i64 n] w fun e w' => e = .returned (.int .i64 n) ∧ w = w' := by
  go_enter Tryd.func34, Tryd.ntmps34
  go_wp2
  go_ret
  exact ⟨rfl, rfl⟩
theorem KBa_reads {w : World} {base : Nat} {ok : Nat → Prop} {v : Value} {ls : List (List UInt8)} (h : Kd.R KB 22 w base ok v (ls.map bi)) : ∃ A c, v = .slice A ls.length c ∧ ls.length ≤ c ∧ Rbs w A ls := by
  obtain ⟨A, c, e, hl, hr⟩ := Kd.R_reads h
  rw [List.length_map] at e hl hr
  exact ⟨A, c, e, hl, hr⟩
theorem mem_frameN {ls : List (List UInt8)} {x : List UInt8} (hx : x ∈ ls) : x.length ≤ frameN ls := by
  induction ls with
  | nil => cases hx
  | cons y r ih =>
    simp only [frameN]
    rcases List.mem_cons.1 hx with rfl | hx
    · omega
    · have := ih hx; omega
theorem ok_small {ls : List (List UInt8)} (h : frameOk ls = true) : ∀ x ∈ ls, x.length ≤ 140737488351232 := fun x hx => by
  have h1 := mem_frameN hx
  unfold frameOk at h
  simp only [Bool.and_eq_true, decide_eq_true_eq] at h
  omega
theorem two_frame : (frameB [[7], []]).length = 13 ∧ frameE [[7], []] = 0 := by decide +kernel
theorem two_rows (w : World) : Rbs ((w.alloc (.cells #[.int .u8 7] 5)).alloc (.cells #[.slice (some ⟨w.heap.size, 0, none⟩) 1 1, .slice none 0 0] 22)) (some ⟨w.heap.size + 1, 0, none⟩) [[7], []] := by
  have h7 : Rb (w.alloc (.cells #[.int .u8 7] 5)) (some ⟨w.heap.size, 0, none⟩) [7] := lit_reads w [7] (by simp)
  have hza : (w.alloc (.cells #[.int .u8 7] 5)).heap.size = w.heap.size + 1 := by simp
  rw [← hza]
  generalize w.alloc (.cells #[.int .u8 7] 5) = w1 at *
  have hb := heap_alloc_new w1 (.cells #[.slice (some ⟨w.heap.size, 0, none⟩) 1 1, .slice none 0 0] 22)
  refine Rbs.mk_ (by simp) (fun i hi => ?_)
  have : i = 0 ∨ i = 1 := by simp at hi; omega
  rcases this with rfl | rfl
  · exact ⟨some ⟨w.heap.size, 0, none⟩, 1, cell_of_row _ _ 0 _ _ _ hb, by simp, C_fr h7 ((Fr.refl No w1).alloc _)⟩
  · exact ⟨none, 0, cell_of_row _ _ 1 _ _ _ hb, by simp, ⟨rfl, by simp, fun hp => by simp at hp⟩⟩
set_option maxRecDepth 100000 in
set_option maxHeartbeats 8000000 in
theorem apart_walk (w : World) (ls : List (List UInt8)) (A : Option Addr) (c : Nat) (hr : Rbs w A ls) (hc : ls.length ≤ c) (hn : ls.length ≤ 5864062014634) (hl : ∀ l ∈ ls, l.length ≤ 140737488351232)
    (ms : List (List UInt8)) (A1 : Option Addr) (c1 : Nat) (hr1 : Rbs w A1 ms) (hc1 : ms.length ≤ c1) (hn1 : ms.length ≤ 5864062014634) (hl1 : ∀ l ∈ ms, l.length ≤ 140737488351232)
    (l : List UInt8) (A2 : Option Addr) (c2 : Nat) (hr2 : Rb w A2 l) (hc2 : l.length ≤ c2) (hl2 : l.length ≤ 140737488351232) (S : List UInt8) (hS : S.length ≤ 140737488351232) (hK : KAt w) (hF : FirstAt w) :
    Calls Tryd.prog 13 #[.slice A ls.length c, .slice A1 ms.length c1, .slice A2 l.length c2, .string ⟨S.toArray⟩] w fun e w' => e = .returned (.bool true) ∧ Fr No w w' := by
  have HR := Aside0.mk hr; have HL := Aside0.mk hl; have HR1 := Aside0.mk hr1; have HL1 := Aside0.mk hl1; have HR2 := Aside0.mk hr2; have HT := Aside0.mk (And.intro hK hF)
  clear hr hl hr1 hl1 hr2 hK hF
  go_enter Tryd.func13, Tryd.ntmps13
  go_wp2_with fail
  refine (frame_calls ls A c w HR.out HL.out).mono ?_
  rintro e w1 ⟨v, rfl, hm, hf⟩
  obtain ⟨X, cx, rfl, hcx, hrx⟩ := hm.reads
  have HX1 := Aside0.mk hrx; have HF1 := Aside0.mk hf
  clear hm hf hrx
  go_wp2_with fail
  refine (frame_calls ms A1 c1 w1 (HR1.out.fr HF1.out) HL1.out).mono ?_
  rintro e w2 ⟨v, rfl, hm, hf⟩
  obtain ⟨Y, cy, rfl, hcy, hry⟩ := hm.reads
  have HY2 := Aside0.mk hry
  have HX2 := Aside0.mk (C_fr HX1.out hf)
  have HF2 : Aside0 (Fr No w w2) := ⟨HF1.out.then_ hf⟩
  clear hm hf hry HX1 HF1
  have hrw := two_rows w2
  have hfb : Fr No w2 ((w2.alloc (.cells #[.int .u8 7] 5)).alloc (.cells #[.slice (some ⟨w2.heap.size, 0, none⟩) 1 1, .slice none 0 0] 22)) := ((Fr.refl No w2).alloc _).alloc _
  go_wp2_with fail
  generalize (w2.alloc (.cells #[.int .u8 7] 5)).alloc _ = w3 at hrw hfb ⊢
  have HY3 := Aside0.mk (C_fr HY2.out hfb)
  have HX3 := Aside0.mk (C_fr HX2.out hfb)
  have HF3 : Aside0 (Fr No w w3) := ⟨HF2.out.then_ hfb⟩
  clear hfb HX2 HY2 HF2
  refine (frame_calls [[7], []] _ 2 w3 hrw (by simp)).mono ?_
  rintro e w4 ⟨v, rfl, hm, hf⟩
  obtain ⟨Z, cz, rfl, hcz, _⟩ := hm.reads
  rw [two_frame.1, two_frame.2]
  have HY4 := Aside0.mk (C_fr HY3.out hf)
  have HX4 := Aside0.mk (C_fr HX3.out hf)
  have HF4 : Aside0 (Fr No w w4) := ⟨HF3.out.then_ hf⟩
  clear hm hf hrw HX3 HY3 HF3 hcz
  go_wp2_with (go_at_call 34; refine (numA_calls _ _).mono ?_; rintro e w' ⟨rfl, rfl⟩)
  refine (parts_calls l A2 c2 w4 (C_fr HR2.out HF4.out) hc2 hl2).mono ?_
  rintro e w5 ⟨v, rfl, hm, hf⟩
  obtain ⟨P, cp, rfl, hcp, hrp⟩ := KBa_reads hm
  have HP5 := Aside0.mk hrp
  have HY5 := Aside0.mk (C_fr HY4.out hf)
  have HX5 := Aside0.mk (C_fr HX4.out hf)
  have HF5 : Aside0 (Fr No w w5) := ⟨HF4.out.then_ hf⟩
  clear hm hf hrp HX4 HY4 HF4 hcp
  have HFP := Aside0.mk (frame_of_parts l)
  have HE3 := Aside0.mk (partsE_three l)
  generalize partsL l = ps at *
  generalize partsE l = e0 at *
  go_upto_if 58 with (go_at_call 34; refine (numA_calls _ _).mono ?_; rintro e w' ⟨rfl, rfl⟩)
  go_cut [8] (fun s8 wx => Aside0 (Fr No w5 wx))
  case first =>
    by_cases h0 : e0 = 0
    · subst h0
      obtain ⟨hok, hfl⟩ := HFP.out rfl
      have HB := Aside0.mk (frame_yes hok)
      have HSM := Aside0.mk (ok_small hok)
      have HFL := Aside0.mk hfl
      clear hok hfl
      go_wp2_with fail
      refine (frame_calls ps P cp w5 HP5.out HSM.out).mono ?_
      rintro e w6 ⟨v, rfl, hm, hf⟩
      rw [HB.out.1, HFL.out] at hm
      obtain ⟨Q, cq, rfl, hcq, hrq⟩ := hm.reads
      have HQ6 := Aside0.mk hrq
      have HF6 := Aside0.mk hf
      rw [HB.out.2]
      clear hm hf hrq
      go_wp2_with (go_at_call 34; refine (numA_calls _ _).mono ?_; rintro e w' ⟨rfl, rfl⟩)
      refine (same_calls l l _ _ _ _ _ HQ6.out (C_fr HR2.out (HF5.out.then_ HF6.out))).mono ?_
      rintro e w7 ⟨rfl, rfl⟩
      have hll : decide (l = l) = true := decide_eq_true rfl
      go_wp2_with fail
      go_meet
      exact HF6
    · have hb0 : (e0 == 0) = false := beq_eq_false_iff_ne.2 h0
      by_cases h2 : e0 = 2
      · subst h2
        go_wp2_with (go_at_call 34; refine (numA_calls _ _).mono ?_; rintro e w' ⟨rfl, rfl⟩)
        go_meet
        exact ⟨Fr.refl _ _⟩
      · have h30 : e0 = 30 := by have := HE3.out; omega
        subst h30
        go_wp2_with (go_at_call 34; refine (numA_calls _ _).mono ?_; rintro e w' ⟨rfl, rfl⟩)
        go_meet
        exact ⟨Fr.refl _ _⟩
  case rest =>
    have HFq := hcut
    clear hcut
    have HY6 := Aside0.mk (C_fr HY5.out HFq.out)
    have HX6 := Aside0.mk (C_fr HX5.out HFq.out)
    have HF6 : Aside0 (Fr No w wc) := ⟨HF5.out.then_ HFq.out⟩
    clear HX5 HY5 HF5 HFq HP5 HFP HE3
    by_cases hk1 : frameOk ls = true
    · by_cases hk2 : frameOk ms = true
      · have B1 := Aside0.mk (frame_yes hk1)
        have B2 := Aside0.mk (frame_yes hk2)
        have HPF := Aside0.mk (parts_of_frame ls hk1)
        have HIN := Aside0.mk (frame_inj hk1 hk2)
        have HSM := Aside0.mk (frameL_length ls)
        have HSM2 : Aside0 ((frameL ls).length ≤ 140737488351232) := ⟨by
          unfold frameOk at hk1
          simp only [Bool.and_eq_true, decide_eq_true_eq] at hk1
          rw [HSM.out]; omega⟩
        rw [B1.out.1] at HX6 hcx ⊢
        rw [B2.out.1] at HY6 hcy ⊢
        rw [B1.out.2, B2.out.2]
        clear hk1 hk2 B1 B2 HSM
        generalize frameL ls = f1 at *
        generalize frameL ms = f2 at *
        go_wp2_with (go_at_call 34; refine (numA_calls _ _).mono ?_; rintro e w' ⟨rfl, rfl⟩)
        refine (parts_calls f1 X cx wc HX6.out hcx HSM2.out).mono ?_
        rintro e w7 ⟨v, rfl, hm, hf⟩
        rw [HPF.out.1] at hm
        rw [HPF.out.2]
        obtain ⟨P2, cp2, rfl, hcp, hrp⟩ := KBa_reads hm
        have HP7 := Aside0.mk hrp
        have HY7 := Aside0.mk (C_fr HY6.out hf)
        have HX7 := Aside0.mk (C_fr HX6.out hf)
        have HF7 : Aside0 (Fr No w w7) := ⟨HF6.out.then_ hf⟩
        clear hm hf hrp HX6 HY6 HF6 hcp
        go_wp2_with (go_at_call 34; refine (numA_calls _ _).mono ?_; rintro e w' ⟨rfl, rfl⟩)
        refine (sameAll_calls ls ls _ _ _ _ w7 HP7.out (HR.out.fr HF7.out)).mono ?_
        rintro e w8 ⟨rfl, hf⟩
        have hdd : decide (ls = ls) = true := decide_eq_true rfl
        have HY8 := Aside0.mk (C_fr HY7.out hf)
        have HX8 := Aside0.mk (C_fr HX7.out hf)
        have HF8 : Aside0 (Fr No w w8) := ⟨HF7.out.then_ hf⟩
        clear hf HX7 HY7 HF7 HP7
        go_wp2_with fail
        refine (same_calls f1 f2 _ _ _ _ _ HX8.out HY8.out).mono ?_
        rintro e w9 ⟨rfl, rfl⟩
        rw [show decide (f1 = f2) = decide (ls = ms) from decide_eq_decide.2 HIN.out]
        generalize hdb : decide (ls = ms) = db
        have HDB := Aside0.mk hdb
        clear hdb hdd
        go_wp2_with fail
        refine (sameAll_calls ls ms _ _ _ _ w8 (HR.out.fr HF8.out) (HR1.out.fr HF8.out)).mono ?_
        rintro e w9 ⟨rfl, hf⟩
        rw [HDB.out]
        have HF9 : Aside0 (Fr No w w9) := ⟨HF8.out.then_ hf⟩
        have hbb : (db != db) = false := bne_self_eq_false db
        clear hf HX8 HY8 HF8
        go_upto_region 18 with fail
        clear hbb HDB HIN HPF HSM2
        have HLS : Aside0 (∀ l ∈ S :: ls, l.length ≤ 140737488351232) := ⟨fun l h => (List.mem_cons.1 h).elim (fun e => by rw [e]; exact hS) (HL.out l)⟩
        have hcvE := dom_convert S w9
        have hBr := dom_reads w9 S hS
        have hFb := dom_fr w9 S
        have hge := grownCap_ge w9 S.length 0 5
        generalize grownCap w9 S.length 0 5 = cap at hcvE hge
        generalize Lib.bytesWorld w9 5 ⟨S.toArray⟩ = Wb at hcvE hBr hFb
        have HP : Aside0 (∀ w2 : World, (KQ (fun w' => Fr No Wb w')).K w2 (bi S) [.slice (some ⟨w9.heap.size, 0, none⟩) S.length cap]) := ⟨fun w2 => ⟨some ⟨w9.heap.size, 0, none⟩, cap, by rw [bi_length], by rw [bi_length]; exact hge, fun w' hw' => by
          rw [bi_length]
          exact C_fr hBr hw'⟩⟩
        have HFb : Aside0 (Fr No w Wb) := ⟨HF9.out.then_ hFb⟩
        have HO0 : Aside0 (Kd.R (KQ (fun w' => Fr No Wb w')) 22 (Wb.alloc (.cells #[.slice (some ⟨w9.heap.size, 0, none⟩) S.length cap] 22)) Wb.heap.size (fun _ => True) (.slice (some ⟨Wb.heap.size, 0, none⟩) 1 1) ((S :: ls.take 0).map bi)) := ⟨KQ_one (Nat.le_refl _) (HP.out Wb)⟩
        have HF0 : Aside0 (Fr No Wb (Wb.alloc (.cells #[.slice (some ⟨w9.heap.size, 0, none⟩) S.length cap] 22))) := ⟨(Fr.refl No Wb).alloc _⟩
        clear hBr hFb hge HP HF9
        go_wp2_with fail
        clear hcvE
        go_loopw [21, 22] (fun v i wr => ∃ k : Nat, k ≤ ls.length ∧ i = .int .i64 k ∧ Aside0 (Kd.R (KQ (fun w' => Fr No Wb w')) 22 wr Wb.heap.size (fun _ => True) v ((S :: ls.take k).map bi)) ∧ Aside0 (Fr No Wb wr)) (fun _ i _ => ls.length - (intOf i).toNat)
        case atStart => exact ⟨0, by omega, rfl, HO0, HF0⟩
        case round =>
          clear HO0 HF0
          obtain ⟨k, hk, rfl, HO, HF⟩ := hrel
          by_cases hlt : k < ls.length
          · obtain ⟨ad, Ai, ci, hA, hc0, hci, hra⟩ := HR.out.at_ k hlt
            subst hA
            have hcell := (HFb.out.then_ HF.out).cell hc0 id
            have HP : Aside0 ((KQ (fun w' => Fr No Wb w')).M wr Wb.heap.size (fun _ => False) (bi ls[k]) [.slice Ai ls[k].length ci]) := ⟨⟨Ai, ci, by rw [bi_length], by rw [bi_length]; exact hci, fun w' hw' => by
              rw [bi_length]
              exact C_fr hra (HFb.out.then_ hw')⟩⟩
            have HT2 : Aside0 ((S :: ls.take k).map bi ++ [bi ls[k]] = (S :: ls.take (k + 1)).map bi) := ⟨by rw [List.take_succ_eq_append_getElem hlt, List.map_cons, List.map_cons, List.map_append, List.cons_append]; rfl⟩
            have HLN : Aside0 ((((S :: ls.take k).map bi).length + 1) * 24 ≤ 140737488355328) := ⟨by simp; omega⟩
            have HZ : Aside0 (Wb.heap.size ≤ wr.heap.size) := ⟨HF.out.size⟩
            have HOB : Aside0 (∀ b, u21.ownBlock = some b → Wb.heap.size ≤ b) := ⟨fun b hb => by
              obtain ⟨_, inner, ho, _⟩ := HO.out
              exact own_base ho b hb⟩
            clear hc0 hci hra
            generalize ls[k] = x at *
            go_wp2_with (at_builtin; refine Kd.R_append (KQ (fun w' => Fr No Wb w')) Wb.heap.size rfl (.tmp 139) (.tmp 144) 34 22 (.slice none 0 0) 24 rfl Tryd.underlying34 infoRow rfl (Nat.succ_pos 0) (by decide) u21 ((S :: ls.take k).map bi) (bi x) [.slice Ai x.length ci] (fun _ => True) (fun _ => False) rfl rfl HP.out (fun _ h => h.elim) (fun _ _ => trivial) HO.out (Below.refl _ _) HZ.out HLN.out ?_; intro v1 w1 hr1 hb1 hg1 hat1)
            have hgr : Fr (fun b => u21.ownBlock = some b) wr w1 := (Fr.refl (fun b => u21.ownBlock = some b) wr).grown hg1 (fun b hb => .inl hb)
            rw [HT2.out] at hr1
            exact ⟨⟨k + 1, by omega, by go_num, ⟨hr1⟩, ⟨HF.out.trans hgr (fun b hb => .inr (HOB.out b hb))⟩⟩, by simp [intOf]; omega⟩
          · obtain rfl : k = ls.length := by omega
            rw [List.take_length] at HO
            obtain ⟨A3, c3, he3, hc3, hr3⟩ := KQ_reads (ls := S :: ls) HO.out HF.out
            subst he3
            have HR3 := Aside0.mk hr3
            have HF3 : Aside0 (Fr No w wr) := ⟨HFb.out.then_ HF.out⟩
            clear hr3 hc3 HO HF HFb
            go_wp2_with fail
            refine (frame_calls (S :: ls) A3 c3 wr HR3.out HLS.out).mono ?_
            rintro e w3 ⟨v, rfl, hm, hf⟩
            obtain ⟨X9, cx9, rfl, hcx9, hrx9⟩ := hm.reads
            have HF4 : Aside0 (Fr No w w3) := ⟨HF3.out.then_ hf⟩
            have HX9 := Aside0.mk hrx9
            clear hm hf hrx9 HR3 HF3
            go_wp2_with fail
            refine (domain_calls S ls A c w3 (HR.out.fr HF4.out) hn HL.out hS (HT.out.1.fr HF4.out id) (HT.out.2.fr HF4.out id)).mono ?_
            rintro e w4 ⟨v, rfl, hm, hf⟩
            obtain ⟨D9, cd9, rfl, hcd9, hrd9⟩ := hm.reads
            have HF5 : Aside0 (Fr No w w4) := ⟨HF4.out.then_ hf⟩
            have HD9 := Aside0.mk hrd9
            have HX10 := Aside0.mk (C_fr HX9.out hf)
            clear hm hf hrd9 HF4 HX9
            by_cases hok : frameOk (S :: ls) = true
            · have HB := Aside0.mk (frame_yes hok)
              have HDB : Aside0 (domB S ls = sha (frameL (S :: ls))) := ⟨if_pos hok⟩
              have HSM := Aside0.mk (frameL_small hok)
              rw [HB.out.1] at HX10 hcx9 ⊢
              rw [HDB.out] at HD9 hcd9 ⊢
              rw [HB.out.2]
              generalize frameL (S :: ls) = fl at *
              clear hok HB HDB hcd9
              generalize hsh : sha fl = sf at HD9 ⊢
              have HSH := Aside0.mk hsh
              clear hsh
              go_wp2_with (go_at_call 34; refine (numA_calls _ _).mono ?_; rintro e w' ⟨rfl, rfl⟩)
              refine (digest_calls fl X9 cx9 w4 hcx9 HX10.out (Nat.le_trans HSM.out (by decide)) (HT.out.1.fr HF5.out id) (HT.out.2.fr HF5.out id)).mono ?_
              rintro e w6 ⟨v, rfl, hm, hf⟩
              obtain ⟨E9, ce9, rfl, hce9, hre9⟩ := hm.reads
              have HE9 := Aside0.mk hre9
              have HD10 := Aside0.mk (C_fr HD9.out hf)
              have HF6 : Aside0 (Fr No w w6) := ⟨HF5.out.then_ hf⟩
              clear hm hf hre9 hce9
              rw [HSH.out] at HE9 ⊢
              go_wp2_with fail
              refine (same_calls sf sf _ _ _ _ _ HD10.out HE9.out).mono ?_
              rintro e w7 ⟨rfl, rfl⟩
              have hss : decide (sf = sf) = true := decide_eq_true rfl
              go_wp2_with fail
              go_ret
              exact ⟨rfl, HF6.out⟩
            · have hok2 : frameOk (S :: ls) = false := by cases h : frameOk (S :: ls) with | true => exact absurd h hok | false => rfl
              have HB := Aside0.mk (frame_not hok2)
              rw [HB.out.2]
              clear hok hok2
              go_wp2_with (go_at_call 34; refine (numA_calls _ _).mono ?_; rintro e w' ⟨rfl, rfl⟩)
              go_ret
              exact ⟨rfl, HF5.out⟩
      · have hk2f : frameOk ms = false := by cases h : frameOk ms with | true => exact absurd h hk2 | false => rfl
        have B1 := Aside0.mk (frame_yes hk1)
        have B2 := Aside0.mk (frame_not hk2f)
        rw [B1.out.2, B2.out.2]
        clear hk1 hk2 hk2f
        go_wp2_with (go_at_call 34; refine (numA_calls _ _).mono ?_; rintro e w' ⟨rfl, rfl⟩)
        go_ret
        exact ⟨rfl, HF6.out⟩
    · have hk1f : frameOk ls = false := by cases h : frameOk ls with | true => exact absurd h hk1 | false => rfl
      have B1 := Aside0.mk (frame_not hk1f)
      rw [B1.out.2]
      have he2 : frameE ms = 0 ∨ frameE ms = 2 := by
        cases h : frameOk ms with
        | true => exact .inl (frame_yes h).2
        | false => exact .inr (frame_not h).2
      clear hk1 hk1f
      rcases he2 with he2 | he2
      · rw [he2]
        clear he2
        go_wp2_with (go_at_call 34; refine (numA_calls _ _).mono ?_; rintro e w' ⟨rfl, rfl⟩)
        go_ret
        exact ⟨rfl, HF6.out⟩
      · rw [he2]
        clear he2
        go_wp2_with (go_at_call 34; refine (numA_calls _ _).mono ?_; rintro e w' ⟨rfl, rfl⟩)
        go_ret
        exact ⟨rfl, HF6.out⟩
end Go.Proofs.YtbaeddppihjgfaaDoor.Sg
