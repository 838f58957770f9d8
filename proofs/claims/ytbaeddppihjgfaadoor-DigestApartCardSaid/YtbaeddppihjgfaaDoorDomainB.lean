/- The walk of the reference's Domain. -/
import Derived.Test.YtbaeddppihjgfaaDoorDomain
namespace Go.Proofs.YtbaeddppihjgfaaDoor.Sg
open Go Go.RowKit Go.Proofs.YtbaeddppihjgfaaDoorW.PrintWords
set_option linter.unusedVariables false
theorem KQ_one {Q : World → Prop} {w : World} {base : Nat} {x : List Int} {u : Value} (hb : base ≤ w.heap.size) (hp : (KQ Q).K w x [u]) : Kd.R (KQ Q) 22 (w.alloc (.cells #[u] 22)) base (fun _ => True) (.slice (some ⟨w.heap.size, 0, none⟩) 1 1) [x] := by
  refine ⟨fun _ _ => trivial, [u], ?_, ?_⟩
  · exact World.ownsRow_lit (base := base) (e := 22) (size := 1) w #[u] 1 hb (by simp [maxLen]) rfl
  · exact (Reps.none _ _).snoc (c := [u]) hp rfl
set_option maxRecDepth 100000 in
set_option maxHeartbeats 4000000 in
theorem refDomain_calls (S : List UInt8) (ls : List (List UInt8)) (A : Option Addr) (c : Nat) (w : World) (hr : Rbs w A ls) (hn : ls.length ≤ 5864062014634) (hl : ∀ l ∈ ls, l.length ≤ 140737488351232) (hS : S.length ≤ 140737488351232) (hK : KeysAt w) :
    Calls Tryd.prog 33 #[.string ⟨S.toArray⟩, .slice A ls.length c] w fun e w' => ∃ v, e = .returned (.tuple #[v, .int .i64 (frameE (S :: ls))]) ∧ Mine w' w.heap.size v (bi (domB S ls)) ∧ Fr No w w' := by
  have HR := Aside0.mk hr; have HT := Aside0.mk hK
  have HL : Aside0 (∀ l ∈ S :: ls, l.length ≤ 140737488351232) := ⟨fun l h => (List.mem_cons.1 h).elim (fun e => by rw [e]; exact hS) (hl l)⟩
  clear hr hK hl
  have hcvE := dom_convert S w
  have hBr := dom_reads w S hS
  have hFb := dom_fr w S
  have hge := grownCap_ge w S.length 0 5
  generalize grownCap w S.length 0 5 = cap at hcvE hge
  generalize Lib.bytesWorld w 5 ⟨S.toArray⟩ = Wb at hcvE hBr hFb
  have HP : Aside0 (∀ w2 : World, (KQ (fun w' => Fr No Wb w')).K w2 (bi S) [.slice (some ⟨w.heap.size, 0, none⟩) S.length cap]) := ⟨fun w2 => ⟨some ⟨w.heap.size, 0, none⟩, cap, by rw [bi_length], by rw [bi_length]; exact hge, fun w' hw' => by
    rw [bi_length]
    exact C_fr hBr hw'⟩⟩
  have HFb := Aside0.mk hFb
  have HO0 : Aside0 (Kd.R (KQ (fun w' => Fr No Wb w')) 22 (Wb.alloc (.cells #[.slice (some ⟨w.heap.size, 0, none⟩) S.length cap] 22)) Wb.heap.size (fun _ => True) (.slice (some ⟨Wb.heap.size, 0, none⟩) 1 1) ((S :: ls.take 0).map bi)) := ⟨KQ_one (Nat.le_refl _) (HP.out Wb)⟩
  have HF0 : Aside0 (Fr No Wb (Wb.alloc (.cells #[.slice (some ⟨w.heap.size, 0, none⟩) S.length cap] 22))) := ⟨(Fr.refl No Wb).alloc _⟩
  clear hBr hFb hge HP
  go_enter Tryd.func33, Tryd.ntmps33
  go_wp2_with fail
  clear hcvE
  go_loopw [6, 7] (fun v i wr => ∃ k : Nat, k ≤ ls.length ∧ i = .int .i64 k ∧ Aside0 (Kd.R (KQ (fun w' => Fr No Wb w')) 22 wr Wb.heap.size (fun _ => True) v ((S :: ls.take k).map bi)) ∧ Aside0 (Fr No Wb wr)) (fun _ i _ => ls.length - (intOf i).toNat)
  case atStart => exact ⟨0, by omega, rfl, HO0, HF0⟩
  case round =>
    clear HO0 HF0
    obtain ⟨k, hk, rfl, HO, HF⟩ := hrel
    by_cases hlt : k < ls.length
    · obtain ⟨ad, Ai, ci, hA, hc0, hci, hra⟩ := HR.out.at_ k hlt
      subst hA
      have hcell := (HFb.out.then_ HF.out).cell hc0 id
      have HP : Aside0 ((KQ (fun w' => Fr No Wb w')).M wr Wb.heap.size (fun _ => False) (bi ls[k]) [.slice Ai ls[k].length ci]) := ⟨⟨Ai, ci, by rw [bi_length], by rw [bi_length]; exact hci, fun w' hw' => by
        rw [bi_length]
        exact C_fr hra (HFb.out.then_ hw')⟩⟩
      have HT2 : Aside0 ((S :: ls.take k).map bi ++ [bi ls[k]] = (S :: ls.take (k + 1)).map bi) := ⟨by rw [List.take_succ_eq_append_getElem hlt, List.map_cons, List.map_cons, List.map_append, List.cons_append]; rfl⟩
      have HLN : Aside0 ((((S :: ls.take k).map bi).length + 1) * 24 ≤ 140737488355328) := ⟨by simp; omega⟩
      have HZ : Aside0 (Wb.heap.size ≤ wr.heap.size) := ⟨HF.out.size⟩
      have HOB : Aside0 (∀ b, u6.ownBlock = some b → Wb.heap.size ≤ b) := ⟨fun b hb => by
        obtain ⟨_, inner, ho, _⟩ := HO.out
        exact own_base ho b hb⟩
      clear hc0 hci hra
      generalize ls[k] = l at *
      go_wp2_with (at_builtin; refine Kd.R_append (KQ (fun w' => Fr No Wb w')) Wb.heap.size rfl (.tmp 20) (.tmp 25) 34 22 (.slice none 0 0) 24 rfl Tryd.underlying34 infoRow rfl (Nat.succ_pos 0) (by decide) u6 ((S :: ls.take k).map bi) (bi l) [.slice Ai l.length ci] (fun _ => True) (fun _ => False) rfl rfl HP.out (fun _ h => h.elim) (fun _ _ => trivial) HO.out (Below.refl _ _) HZ.out HLN.out ?_; intro v1 w1 hr1 hb1 hg1 hat1)
      have hgr : Fr (fun b => u6.ownBlock = some b) wr w1 := (Fr.refl (fun b => u6.ownBlock = some b) wr).grown hg1 (fun b hb => .inl hb)
      rw [HT2.out] at hr1
      exact ⟨⟨k + 1, by omega, by go_num, ⟨hr1⟩, ⟨HF.out.trans hgr (fun b hb => .inr (HOB.out b hb))⟩⟩, by simp [intOf]; omega⟩
    · obtain rfl : k = ls.length := by omega
      rw [List.take_length] at HO
      obtain ⟨A3, c3, he3, hc3, hr3⟩ := KQ_reads (ls := S :: ls) HO.out HF.out
      subst he3
      have HR3 := Aside0.mk hr3
      have HF3 : Aside0 (Fr No w wr) := ⟨HFb.out.then_ HF.out⟩
      clear hr3 hc3 HO HF HFb
      go_wp2_with fail
      refine (refFrame_calls (S :: ls) A3 c3 wr HR3.out HL.out).mono ?_
      rintro e w3 ⟨v, rfl, hm, hf⟩
      obtain ⟨X, cx, rfl, hcx, hrx⟩ := hm.reads
      have HF4 : Aside0 (Fr No w w3) := ⟨HF3.out.then_ hf⟩
      have HX := Aside0.mk hrx
      clear hm hf hrx HR3 HF3
      by_cases hok : frameOk (S :: ls) = true
      · have HB := Aside0.mk (frame_yes hok)
        have HDB : Aside0 (domB S ls = sha (frameL (S :: ls))) := ⟨if_pos hok⟩
        have HSM := Aside0.mk (frameL_small hok)
        rw [HB.out.1] at HX hcx ⊢
        rw [HB.out.2]
        have HE := Aside0.mk HB.out.2
        generalize frameL (S :: ls) = fl at *
        clear hok HB
        go_wp2_with fail
        refine (refSum_calls fl X cx w3 HX.out (Nat.le_trans HSM.out (by decide)) (HT.out.fr HF4.out id)).mono ?_
        rintro e w4 ⟨v, rfl, hm, hf⟩
        have HM4 : Aside0 (Mine w4 w.heap.size v (bi (sha fl))) := ⟨hm.lower HF4.out.size⟩
        have HF5 : Aside0 (Fr No w w4) := ⟨HF4.out.then_ hf⟩
        clear hm hf
        go_wp2_with fail
        go_ret2
        exact ⟨v, by rw [HE.out]; rfl, by rw [HDB.out]; exact HM4.out, HF5.out⟩
      · have hok2 : frameOk (S :: ls) = false := by cases h : frameOk (S :: ls) with | true => exact absurd h hok | false => rfl
        have HB := Aside0.mk (frame_not hok2)
        have HDB : Aside0 (domB S ls = []) := ⟨by unfold domB; rw [hok2]; rfl⟩
        rw [HB.out.1] at HX hcx ⊢
        rw [HB.out.2]
        clear hok hok2
        go_wp2_with fail
        go_ret2
        exact ⟨.slice none 0 0, by rw [HB.out.2]; rfl, by rw [HDB.out]; exact Mine.nil _ _, HF4.out⟩
end Go.Proofs.YtbaeddppihjgfaaDoor.Sg
