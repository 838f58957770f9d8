/- The walks of the program's Domain and of the reference's. -/
import Derived.Test.YtbaeddppihjgfaaDoorMgFrame
import Derived.Test.YtbaeddppihjgfaaDoorHead
namespace Go.Proofs.YtbaeddppihjgfaaDoor.Sg
open Go Go.RowKit Go.Proofs.YtbaeddppihjgfaaDoorW.PrintWords
set_option linter.unusedVariables false
/-- Lists of bytes that read so in every world of Q. -/
def KQ (Q : World → Prop) : Kd (List Int) where
  sz := 1
  E := []
  K := fun _ x cs => ∃ A c, cs = [.slice A x.length c] ∧ x.length ≤ c ∧ ∀ w', Q w' → Kd.C (Kd.int .u8) w' A x.length x
  M := fun _ _ _ x cs => ∃ A c, cs = [.slice A x.length c] ∧ x.length ≤ c ∧ ∀ w', Q w' → Kd.C (Kd.int .u8) w' A x.length x
  K_len := by rintro w x cs ⟨A, c, rfl, _⟩; rfl
  K_one := by
    rintro w x cs ⟨A, c, rfl, _⟩ u hu
    rw [List.mem_singleton.1 hu]
    rfl
  K_below := fun _ h => h
  K_of_M := fun h => h
  M_mono := fun _ h => h
  M_bound := fun h => h
  M_move := fun _ h => h
  M_lower := fun _ h => h
theorem KQ_nil (Q : World → Prop) (w : World) (m base : Nat) (hb : base ≤ w.heap.size) (hm : m ≤ maxLen) : Kd.R (KQ Q) 22 (w.alloc (.cells (madeCells #[.slice none 0 0] m) 22)) base (fun _ => True) (.slice (some ⟨w.heap.size, 0, none⟩) 0 m) [] :=
  ⟨fun _ _ => trivial, [], World.ownsRow_made (base := base) (e := 22) (size := 1) w (madeCells #[.slice none 0 0] m) m hb hm (by simp [size_madeCells]), Reps.none _ _⟩
theorem KQ_reads {Q : World → Prop} {w : World} {base : Nat} {ok : Nat → Prop} {v : Value} {ls : List (List UInt8)} (h : Kd.R (KQ Q) 22 w base ok v (ls.map bi)) (hq : Q w) : ∃ A c, v = .slice A ls.length c ∧ ls.length ≤ c ∧ Rbs w A ls := by
  obtain ⟨A, c, e, hl, hr⟩ := Kd.R_reads h
  rw [List.length_map] at e hl hr
  exact ⟨A, c, e, hl, ReadsRow.imp_ hr (Below.refl _ _) (fun p cs ⟨A, c, e, hl, hr⟩ => ⟨A, c, e, hl, hr w hq⟩)⟩
theorem KQ_of {Q : World → Prop} {w w' : World} {A : Option Addr} {ls : List (List UInt8)} (h : Rbs w A ls) (hf : Fr No w w') (hq : ∀ w', Q w' → Fr No w w') : ReadsRow ((KQ Q).K w') 1 w' A ls.length (ls.map bi) :=
  ReadsRow.imp_ h hf.below (fun p cs ⟨A, c, e, hl, hr⟩ => ⟨A, c, e, hl, fun w2 h2 => C_fr hr (hq w2 h2)⟩)
theorem dom_reads (W : World) (S : List UInt8) (hS : S.length ≤ 140737488351232) : Rb (Lib.bytesWorld W 5 ⟨S.toArray⟩) (some ⟨W.heap.size, 0, none⟩) S := by
  have h := bytes_reads W 5 ⟨S.toArray⟩ (by show S.toArray.size ≤ _; simp; omega)
  have e : bytesOf ⟨S.toArray⟩ = bi S := by simp [bytesOf, bi]
  have e2 : (⟨S.toArray⟩ : ByteArray).size = S.length := by show S.toArray.size = _; simp
  rw [e, e2] at h
  exact Kd.C_of_reads (enc := Value.int .u8) (d := (0 : Int)) (h1 := fun _ => rfl) h
theorem dom_fr (W : World) (S : List UInt8) : Fr No W (Lib.bytesWorld W 5 ⟨S.toArray⟩) := Fr.of_below (bytes_below (Below.refl _ _) (Nat.le_refl _) _ _)
set_option maxRecDepth 100000 in
theorem dom_convert (S : List UInt8) (W : World) : (convert 9 22 (.string ⟨S.toArray⟩)).run Tryd.prog W = .ok (.slice (some ⟨W.heap.size, 0, none⟩) S.length (grownCap W S.length 0 5)) (Lib.bytesWorld W 5 ⟨S.toArray⟩) := by
  have h := print_bytes (P := Tryd.prog) 9 22 5 Tryd.underlying9 Tryd.underlying22 Tryd.underlying5 ⟨S.toArray⟩ W
  have e2 : (⟨S.toArray⟩ : ByteArray).size = S.length := by show S.toArray.size = _; simp
  rwa [e2] at h
set_option maxRecDepth 100000 in
theorem make0R (m : Nat) (hm : m * 24 ≤ 281474976710656) (W : World) :
    (Instr.makeSlice 34 (.int .i64 0) (.int .i64 (m : Int))).run Tryd.prog W = .ok (.slice (some ⟨W.heap.size, 0, none⟩) 0 m) (W.alloc (.cells (madeCells #[.slice none 0 0] m) 22)) := by
  obtain ⟨i, hi, hzz⟩ := Option.map_eq_some_iff.1 infoRow
  simp only [Prod.mk.injEq] at hzz
  obtain ⟨hz0, hz1, hz2⟩ := hzz
  have := run_make (P := Tryd.prog) W 34 22 i (.slice none 0 0) Tryd.underlying34 hi hz0 .i64 .i64 0 (m : Int) (by omega) (by omega) (by rw [hz2]; omega) (by omega)
  rw [hz1] at this
  simpa [Value.cells] using this
def domB (S : List UInt8) (ls : List (List UInt8)) : List UInt8 := if frameOk (S :: ls) then sha (frameL (S :: ls)) else []
theorem frameL_small {ls : List (List UInt8)} (h : frameOk ls = true) : (frameL ls).length ≤ 67108864 := by
  unfold frameOk at h
  simp only [Bool.and_eq_true, decide_eq_true_eq] at h
  rw [frameL_length]; exact h.2
set_option maxRecDepth 100000 in
set_option maxHeartbeats 4000000 in
theorem domain_calls (S : List UInt8) (ls : List (List UInt8)) (A : Option Addr) (c : Nat) (w : World) (hr : Rbs w A ls) (hn : ls.length ≤ 5864062014634) (hl : ∀ l ∈ ls, l.length ≤ 140737488351232) (hS : S.length ≤ 140737488351232) (hK : KAt w) (hF : FirstAt w) :
    Calls Tryd.prog 32 #[.string ⟨S.toArray⟩, .slice A ls.length c] w fun e w' => ∃ v, e = .returned (.tuple #[v, .int .i64 (frameE (S :: ls))]) ∧ Mine w' w.heap.size v (bi (domB S ls)) ∧ Fr No w w' := by
  have HR := Aside0.mk hr; have HT := Aside0.mk (And.intro hK hF)
  have HL : Aside0 (∀ l ∈ S :: ls, l.length ≤ 140737488351232) := ⟨fun l h => (List.mem_cons.1 h).elim (fun e => by rw [e]; exact hS) (hl l)⟩
  clear hr hK hF hl
  have hcv := dom_convert S
  have hmk := make0R (ls.length + 1) (by omega)
  have ec : ((ls.length + 1 : Nat) : Int) = (ls.length : Int) + 1 := by omega
  rw [ec] at hmk
  clear ec
  go_enter Tryd.func32, Tryd.ntmps32
  go_upto_region 2 with fail
  have hza : (w.alloc (.cells (madeCells #[.slice none 0 0] (ls.length + 1)) 22)).heap.size = w.heap.size + 1 := by simp
  have hFa : Fr No w (w.alloc (.cells (madeCells #[.slice none 0 0] (ls.length + 1)) 22)) := (Fr.refl No w).alloc _
  have hO := fun Q => KQ_nil Q w (ls.length + 1) w.heap.size (Nat.le_refl _) (by unfold maxLen; omega)
  generalize w.alloc (.cells (madeCells #[.slice none 0 0] (ls.length + 1)) 22) = E at hza hFa hO ⊢
  have hcvE := hcv E
  have hBr := dom_reads E S hS
  have hFb := dom_fr E S
  have hge := grownCap_ge E S.length 0 5
  rw [hza] at hcvE hBr
  generalize grownCap E S.length 0 5 = cap at hcvE hge
  generalize Lib.bytesWorld E 5 ⟨S.toArray⟩ = Wb at hcvE hBr hFb
  have HO : Aside0 (Kd.R (KQ (fun w' => Fr (fun k => k = w.heap.size) Wb w')) 22 Wb w.heap.size (fun _ => True) (.slice (some ⟨w.heap.size, 0, none⟩) 0 (ls.length + 1)) []) := ⟨Kd.R_kept (hO _) hFb.kept (fun _ _ => id)⟩
  have HP : Aside0 ((KQ (fun w' => Fr (fun k => k = w.heap.size) Wb w')).M Wb w.heap.size (fun _ => False) (bi S) [.slice (some ⟨w.heap.size + 1, 0, none⟩) S.length cap]) := ⟨⟨some ⟨w.heap.size + 1, 0, none⟩, cap, by rw [bi_length], by rw [bi_length]; exact hge, fun w' hw' => by
    rw [bi_length]
    have hb : w.heap.size + 1 ≠ w.heap.size := by omega
    refine ⟨bi_length S, hBr.2.1, fun hp => ?_⟩
    obtain ⟨ad, e, hc⟩ := hBr.2.2 hp
    obtain rfl := Option.some.inj e
    refine ⟨_, rfl, fun j p hj => ?_⟩
    obtain ⟨cs, h1, h2, h3⟩ := hc j p hj
    refine ⟨cs, h1, h2, fun i u hu => hw'.cell (h3 i u hu) ?_⟩
    rw [add_plain]
    exact hb⟩⟩
  have HFW : Aside0 (Fr No w Wb) := ⟨hFa.then_ hFb⟩
  have HZW : Aside0 (w.heap.size ≤ Wb.heap.size) := ⟨HFW.out.size⟩
  clear hFa hO hBr hFb hcv hmk
  have HSL : Aside0 (S.length ≤ cap) := ⟨hge⟩
  clear hge
  go_wp2_with (first
    | (at_builtin; refine Kd.R_append (KQ (fun w' => Fr (fun k => k = w.heap.size) Wb w')) w.heap.size rfl (.tmp 13) (.tmp 16) 34 22 (.slice none 0 0) 24 rfl Tryd.underlying34 infoRow rfl (Nat.succ_pos 0) (by decide) (.slice (some ⟨w.heap.size, 0, none⟩) 0 (ls.length + 1)) [] (bi S) [.slice (some ⟨w.heap.size + 1, 0, none⟩) S.length cap] (fun _ => True) (fun _ => False) rfl rfl HP.out (fun _ h => h.elim) (fun _ _ => trivial) HO.out (Below.refl _ _) HZW.out (by simp) ?_
       intro v1 w1 hr1 hb1 hg1 hat1
       have F1 : Aside0 (Fr (fun k => k = w.heap.size) Wb w1) := ⟨(Fr.refl (fun k => k = w.heap.size) Wb).grown hg1 (fun k hk => .inl (by simpa [Value.ownBlock] using hk.symm))⟩
       have HF1 : Aside0 (Fr No w w1) := ⟨HFW.out.trans F1.out (fun k hk => .inr (by omega))⟩
       have HO1 : Aside0 (Kd.R (KQ (fun w' => Fr (fun k => k = w.heap.size) Wb w')) 22 w1 w.heap.size (fun _ => True) v1 [bi S]) := ⟨hr1⟩
       have HAT : Aside0 (∀ k, v1.ownBlock = some k → k = w.heap.size ∨ Wb.heap.size ≤ k) := ⟨fun k hk => by
         rcases hat1 with h | ⟨b, h, hb⟩
         · rw [h] at hk; exact .inl (by simpa [Value.ownBlock] using hk.symm)
         · rw [h] at hk; obtain rfl := Option.some.inj hk; exact .inr hb⟩
       have HQ1 : Aside0 (ReadsRow ((KQ (fun w' => Fr (fun k => k = w.heap.size) Wb w')).K w1) 1 w1 A ls.length (ls.map bi)) := ⟨KQ_of HR.out HF1.out (fun w' hq => HFW.out.trans hq (fun k hk => .inr (by omega)))⟩
       have HZ1 : Aside0 (w.heap.size ≤ w1.heap.size) := ⟨HF1.out.size⟩
       clear hr1 hb1 hg1 hat1)
    | (at_builtin; refine Kd.R_append_rows (KQ (fun w' => Fr (fun k => k = w.heap.size) Wb w')) w.heap.size rfl (.tmp 18) (.tmp 19) 34 22 (.slice none 0 0) 24 rfl Tryd.underlying34 infoRow rfl (Nat.succ_pos 0) (by decide) v1 [bi S] (ls.map bi) A ls.length c (fun _ => True) (fun _ => False) rfl rfl HO1.out HQ1.out (fun _ _ h => h) (fun _ h => h.elim) (fun _ _ => trivial) (Below.refl _ _) HZ1.out (by simp only [List.length_cons, List.length_nil]; omega) ?_
       intro v2 w2 hr2 hb2 hg2 hat2
       have F2 : Fr (fun k => v1.ownBlock = some k) w1 w2 := (Fr.refl (fun k => v1.ownBlock = some k) w1).grown hg2 (fun k hk => .inl hk)
       have FQ : Fr (fun k => k = w.heap.size) Wb w2 := F1.out.trans F2 (fun k hk => HAT.out k hk)
       obtain ⟨A3, c3, he3, hc3, hr3⟩ := KQ_reads (ls := S :: ls) hr2 FQ
       subst he3
       have HR3 := Aside0.mk hr3
       have HF3 : Aside0 (Fr No w w2) := ⟨HFW.out.trans FQ (fun k hk => .inr (by omega))⟩
       clear hr2 hb2 hg2 hat2 F2 FQ hr3 hc3))
  clear HSL HP HO HO1 HAT HQ1 HZ1 HF1 F1 HZW HFW hcvE hza
  refine (frame_calls (S :: ls) A3 c3 w2 HR3.out HL.out).mono ?_
  rintro e w3 ⟨v, rfl, hm, hf⟩
  obtain ⟨X, cx, rfl, hcx, hrx⟩ := hm.reads
  have HF4 : Aside0 (Fr No w w3) := ⟨HF3.out.then_ hf⟩
  have HX := Aside0.mk hrx
  clear hm hf hrx HR3 HF3
  by_cases hok : frameOk (S :: ls) = true
  · have HB := Aside0.mk (frame_yes hok)
    have HDB : Aside0 (domB S ls = sha (frameL (S :: ls))) := ⟨if_pos hok⟩
    have HSM := Aside0.mk (frameL_small hok)
    rw [HB.out.1] at HX hcx ⊢
    rw [HB.out.2]
    have HE := Aside0.mk HB.out.2
    generalize frameL (S :: ls) = fl at *
    clear hok HB
    go_wp2_with fail
    refine (digest_calls fl X cx w3 hcx HX.out (Nat.le_trans HSM.out (by decide)) (HT.out.1.fr HF4.out id) (HT.out.2.fr HF4.out id)).mono ?_
    rintro e w4 ⟨v, rfl, hm, hf⟩
    have HM4 : Aside0 (Mine w4 w.heap.size v (bi (sha fl))) := ⟨hm.lower HF4.out.size⟩
    have HF5 : Aside0 (Fr No w w4) := ⟨HF4.out.then_ hf⟩
    clear hm hf
    go_wp2_with fail
    go_ret2
    exact ⟨v, by rw [HE.out]; rfl, by rw [HDB.out]; exact HM4.out, HF5.out⟩
  · have hok2 : frameOk (S :: ls) = false := by cases h : frameOk (S :: ls) with | true => exact absurd h hok | false => rfl
    have HB := Aside0.mk (frame_not hok2)
    have HDB : Aside0 (domB S ls = []) := ⟨by unfold domB; rw [hok2]; rfl⟩
    rw [HB.out.1] at HX hcx ⊢
    rw [HB.out.2]
    clear hok hok2
    go_wp2_with fail
    go_ret2
    exact ⟨.slice none 0 0, by rw [HB.out.2]; rfl, by rw [HDB.out]; exact Mine.nil _ _, HF4.out⟩
end Go.Proofs.YtbaeddppihjgfaaDoor.Sg
namespace Go.Proofs.YtbaeddppihjgfaaDoor.Sg
open Go Go.RowKit Go.Proofs.YtbaeddppihjgfaaDoorW.PrintWords
set_option linter.unusedVariables false
theorem KQ_one {Q : World → Prop} {w : World} {base : Nat} {x : List Int} {u : Value} (hb : base ≤ w.heap.size) (hp : (KQ Q).K w x [u]) : Kd.R (KQ Q) 22 (w.alloc (.cells #[u] 22)) base (fun _ => True) (.slice (some ⟨w.heap.size, 0, none⟩) 1 1) [x] := by
  refine ⟨fun _ _ => trivial, [u], ?_, ?_⟩
  · exact World.ownsRow_lit (base := base) (e := 22) (size := 1) w #[u] 1 hb (by simp [maxLen]) rfl
  · exact (Reps.none _ _).snoc (c := [u]) hp rfl
set_option maxRecDepth 100000 in
set_option maxHeartbeats 4000000 in
theorem refDomain_calls (S : List UInt8) (ls : List (List UInt8)) (A : Option Addr) (c : Nat) (w : World) (hr : Rbs w A ls) (hn : ls.length ≤ 5864062014634) (hl : ∀ l ∈ ls, l.length ≤ 140737488351232) (hS : S.length ≤ 140737488351232) (hK : KeysAt w) :
    Calls Tryd.prog 33 #[.string ⟨S.toArray⟩, .slice A ls.length c] w fun e w' => ∃ v, e = .returned (.tuple #[v, .int .i64 (frameE (S :: ls))]) ∧ Mine w' w.heap.size v (bi (domB S ls)) ∧ Fr No w w' := by
  have HR := Aside0.mk hr; have HT := Aside0.mk hK
  have HL : Aside0 (∀ l ∈ S :: ls, l.length ≤ 140737488351232) := ⟨fun l h => (List.mem_cons.1 h).elim (fun e => by rw [e]; exact hS) (hl l)⟩
  clear hr hK hl
  have hcvE := dom_convert S w
  have hBr := dom_reads w S hS
  have hFb := dom_fr w S
  have hge := grownCap_ge w S.length 0 5
  generalize grownCap w S.length 0 5 = cap at hcvE hge
  generalize Lib.bytesWorld w 5 ⟨S.toArray⟩ = Wb at hcvE hBr hFb
  have HP : Aside0 (∀ w2 : World, (KQ (fun w' => Fr No Wb w')).K w2 (bi S) [.slice (some ⟨w.heap.size, 0, none⟩) S.length cap]) := ⟨fun w2 => ⟨some ⟨w.heap.size, 0, none⟩, cap, by rw [bi_length], by rw [bi_length]; exact hge, fun w' hw' => by
    rw [bi_length]
    exact C_fr hBr hw'⟩⟩
  have HFb := Aside0.mk hFb
  have HO0 : Aside0 (Kd.R (KQ (fun w' => Fr No Wb w')) 22 (Wb.alloc (.cells #[.slice (some ⟨w.heap.size, 0, none⟩) S.length cap] 22)) Wb.heap.size (fun _ => True) (.slice (some ⟨Wb.heap.size, 0, none⟩) 1 1) ((S :: ls.take 0).map bi)) := ⟨KQ_one (Nat.le_refl _) (HP.out Wb)⟩
  have HF0 : Aside0 (Fr No Wb (Wb.alloc (.cells #[.slice (some ⟨w.heap.size, 0, none⟩) S.length cap] 22))) := ⟨(Fr.refl No Wb).alloc _⟩
  clear hBr hFb hge HP
  go_enter Tryd.func33, Tryd.ntmps33
  go_wp2_with fail
  clear hcvE
  go_loopw [6, 7] (fun v i wr => ∃ k : Nat, k ≤ ls.length ∧ i = .int .i64 k ∧ Aside0 (Kd.R (KQ (fun w' => Fr No Wb w')) 22 wr Wb.heap.size (fun _ => True) v ((S :: ls.take k).map bi)) ∧ Aside0 (Fr No Wb wr)) (fun _ i _ => ls.length - (intOf i).toNat)
  case atStart => exact ⟨0, by omega, rfl, HO0, HF0⟩
  case round =>
    clear HO0 HF0
    obtain ⟨k, hk, rfl, HO, HF⟩ := hrel
    by_cases hlt : k < ls.length
    · obtain ⟨ad, Ai, ci, hA, hc0, hci, hra⟩ := HR.out.at_ k hlt
      subst hA
      have hcell := (HFb.out.then_ HF.out).cell hc0 id
      have HP : Aside0 ((KQ (fun w' => Fr No Wb w')).M wr Wb.heap.size (fun _ => False) (bi ls[k]) [.slice Ai ls[k].length ci]) := ⟨⟨Ai, ci, by rw [bi_length], by rw [bi_length]; exact hci, fun w' hw' => by
        rw [bi_length]
        exact C_fr hra (HFb.out.then_ hw')⟩⟩
      have HT2 : Aside0 ((S :: ls.take k).map bi ++ [bi ls[k]] = (S :: ls.take (k + 1)).map bi) := ⟨by rw [List.take_succ_eq_append_getElem hlt, List.map_cons, List.map_cons, List.map_append, List.cons_append]; rfl⟩
      have HLN : Aside0 ((((S :: ls.take k).map bi).length + 1) * 24 ≤ 140737488355328) := ⟨by simp; omega⟩
      have HZ : Aside0 (Wb.heap.size ≤ wr.heap.size) := ⟨HF.out.size⟩
      have HOB : Aside0 (∀ b, u6.ownBlock = some b → Wb.heap.size ≤ b) := ⟨fun b hb => by
        obtain ⟨_, inner, ho, _⟩ := HO.out
        exact own_base ho b hb⟩
      clear hc0 hci hra
      generalize ls[k] = l at *
      go_wp2_with (at_builtin; refine Kd.R_append (KQ (fun w' => Fr No Wb w')) Wb.heap.size rfl (.tmp 20) (.tmp 25) 34 22 (.slice none 0 0) 24 rfl Tryd.underlying34 infoRow rfl (Nat.succ_pos 0) (by decide) u6 ((S :: ls.take k).map bi) (bi l) [.slice Ai l.length ci] (fun _ => True) (fun _ => False) rfl rfl HP.out (fun _ h => h.elim) (fun _ _ => trivial) HO.out (Below.refl _ _) HZ.out HLN.out ?_; intro v1 w1 hr1 hb1 hg1 hat1)
      have hgr : Fr (fun b => u6.ownBlock = some b) wr w1 := (Fr.refl (fun b => u6.ownBlock = some b) wr).grown hg1 (fun b hb => .inl hb)
      rw [HT2.out] at hr1
      exact ⟨⟨k + 1, by omega, by go_num, ⟨hr1⟩, ⟨HF.out.trans hgr (fun b hb => .inr (HOB.out b hb))⟩⟩, by simp [intOf]; omega⟩
    · obtain rfl : k = ls.length := by omega
      rw [List.take_length] at HO
      obtain ⟨A3, c3, he3, hc3, hr3⟩ := KQ_reads (ls := S :: ls) HO.out HF.out
      subst he3
      have HR3 := Aside0.mk hr3
      have HF3 : Aside0 (Fr No w wr) := ⟨HFb.out.then_ HF.out⟩
      clear hr3 hc3 HO HF HFb
      go_wp2_with fail
      refine (refFrame_calls (S :: ls) A3 c3 wr HR3.out HL.out).mono ?_
      rintro e w3 ⟨v, rfl, hm, hf⟩
      obtain ⟨X, cx, rfl, hcx, hrx⟩ := hm.reads
      have HF4 : Aside0 (Fr No w w3) := ⟨HF3.out.then_ hf⟩
      have HX := Aside0.mk hrx
      clear hm hf hrx HR3 HF3
      by_cases hok : frameOk (S :: ls) = true
      · have HB := Aside0.mk (frame_yes hok)
        have HDB : Aside0 (domB S ls = sha (frameL (S :: ls))) := ⟨if_pos hok⟩
        have HSM := Aside0.mk (frameL_small hok)
        rw [HB.out.1] at HX hcx ⊢
        rw [HB.out.2]
        have HE := Aside0.mk HB.out.2
        generalize frameL (S :: ls) = fl at *
        clear hok HB
        go_wp2_with fail
        refine (refSum_calls fl X cx w3 HX.out (Nat.le_trans HSM.out (by decide)) (HT.out.fr HF4.out id)).mono ?_
        rintro e w4 ⟨v, rfl, hm, hf⟩
        have HM4 : Aside0 (Mine w4 w.heap.size v (bi (sha fl))) := ⟨hm.lower HF4.out.size⟩
        have HF5 : Aside0 (Fr No w w4) := ⟨HF4.out.then_ hf⟩
        clear hm hf
        go_wp2_with fail
        go_ret2
        exact ⟨v, by rw [HE.out]; rfl, by rw [HDB.out]; exact HM4.out, HF5.out⟩
      · have hok2 : frameOk (S :: ls) = false := by cases h : frameOk (S :: ls) with | true => exact absurd h hok | false => rfl
        have HB := Aside0.mk (frame_not hok2)
        have HDB : Aside0 (domB S ls = []) := ⟨by unfold domB; rw [hok2]; rfl⟩
        rw [HB.out.1] at HX hcx ⊢
        rw [HB.out.2]
        clear hok hok2
        go_wp2_with fail
        go_ret2
        exact ⟨.slice none 0 0, by rw [HB.out.2]; rfl, by rw [HDB.out]; exact Mine.nil _ _, HF4.out⟩
end Go.Proofs.YtbaeddppihjgfaaDoor.Sg
