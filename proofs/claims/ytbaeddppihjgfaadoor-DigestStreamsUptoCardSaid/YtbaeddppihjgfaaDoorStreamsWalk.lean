/- The walk of the law DigestStreams. -/
import Derived.Test.YtbaeddppihjgfaaDoorStreams
import Derived.Test.YtbaeddppihjgfaaDoorOpenSteps
import Derived.Test.YtbaeddppihjgfaaDoorHead
import Derived.Test.YtbaeddppihjgfaaDoorRoom
import Derived.Test.YtbaeddppihjgfaaDoorTreeRef
namespace Go.Proofs.YtbaeddppihjgfaaDoor.Sg
open Go Go.RowKit Go.Proofs.YtbaeddppihjgfaaDoorW.PrintWords
set_option linter.unusedVariables false
theorem run_loadVar_cellsP {P : Program} (w : World) (a : Addr) (ty : TypeId) (cs : Array Value) (d : TypeDesc) (hg : ∀ j v, cs.toList[j]? = some v → w.cell? (a.add j) = some v)
    (hu : P.underlying ty = some d) (hd : (match d with | .struct _ | .array _ _ => true | _ => false) = true) (hi : (P.info? ty).map (·.size) = some cs.size) :
    (loadVar ty a).run P w = .ok (.agg cs) w := by
  have hl : (loadCells a cs.toList.length).run P w = .ok cs.toList.toArray w := run_loadCells_list (P := P) w a cs.toList hg
  cases hq : P.info? ty with
  | none => simp [hq] at hi
  | some i =>
    have hs : i.size = cs.size := by simpa [hq] using hi
    have hagg : (isAgg ty).run P w = .ok true w := by
      unfold isAgg
      rw [Sem.run_bind, run_underlying hu w]
      cases d <;> simp_all
    simp only [Array.length_toList, Array.toArray_toList] at hl
    simp [loadVar, Sem.run_bind, hagg, sizeOf, typeInfo, hq, hs, hl]
theorem wpList_load_cellsP {P : Program} {ops : Array Oper} {rest : List Oper} {o : Oper} {a : Act} {w : World} {Q : Exit → Act → World → Prop} (hgd : o.guard = none) (ty : TypeId) (x : Operand) (ho : o.op = .load ty x)
    (ad : Addr) (hx : a.eval x = .pointer (some ad)) (cs : Array Value) (d : TypeDesc) (hg : ∀ j v, cs.toList[j]? = some v → w.cell? (ad.add j) = some v)
    (hu : P.underlying ty = some d) (hd : (match d with | .struct _ | .array _ _ => true | _ => false) = true) (hi : (P.info? ty).map (·.size) = some cs.size)
    (h : wpList P ops Q rest (a.put o.dst (.agg cs)) w) : wpList P ops Q (o :: rest) a w :=
  wpList_plain hgd fun _ hK => by
    unfold Oper.wp execOp
    simp only [ho, hx, Instr.loadAt, Instr.sureAddr, Sem.run_bind, Sem.run_pure, Result.andThen_ok, run_loadVar_cellsP w ad ty cs d hg hu hd hi]
    exact hK _ _ h

/-- All that the main loop keeps. -/
structure StrI (w0 : World) (ss : SL) (wr : World) (va vh : Value) (k n : Nat) : Prop where
  out : ∃ (hs : HL) (lab : Nat → Nat), hs.length = n ∧ StrS w0.heap.size lab wr va vh hs ∧ ∀ h ∈ hs, h.2.length ≤ stepsBulk (ss.take k)
  fr : Fr No w0 wr
theorem StrI.frN {w0 wr w' : World} {ss : SL} {va vh : Value} {k n : Nat} (h : StrI w0 ss wr va vh k n) (hf : Fr No wr w') : StrI w0 ss w' va vh k n := by
  obtain ⟨hs, lab, h1, h2, h3⟩ := h.out
  exact ⟨⟨hs, lab, h1, h2.frN hf, h3⟩, h.fr.then_ hf⟩
theorem ptr_row (w : World) (base p : Nat) (ok : Nat → Prop) (hb : base ≤ w.heap.size) (hok : ok w.heap.size) : Kd.R KP 31 (w.alloc (.cells #[.pointer (some ⟨p, 0, none⟩)] 31)) base ok (.slice (some ⟨w.heap.size, 0, none⟩) 1 1) [p] := by
  refine ⟨fun k hk => ?_, [.pointer (some ⟨p, 0, none⟩)], ?_, ?_⟩
  · obtain rfl : w.heap.size = k := by simpa [Value.ownBlock] using hk
    exact hok
  · exact World.ownsRow_lit (base := base) (e := 31) (size := 1) w #[.pointer (some ⟨p, 0, none⟩)] 1 hb (by simp [maxLen]) rfl
  · exact (Reps.none _ _).snoc (c := [.pointer (some ⟨p, 0, none⟩)]) rfl rfl
theorem nil_row (w : World) (base : Nat) (ok : Nat → Prop) (hb : base ≤ w.heap.size) (hok : ok w.heap.size) : Kd.S KB 22 (w.alloc (.cells #[.slice none 0 0] 22)) base ok (.slice (some ⟨w.heap.size, 0, none⟩) 1 1) [[]] := by
  refine ⟨fun _ => 0, fun k hk => ?_, [.slice none 0 0], ?_, ?_⟩
  · obtain rfl : w.heap.size = k := by simpa [Value.ownBlock] using hk
    exact hok
  · exact World.ownsRow_lit (base := base) (e := 22) (size := 1) w #[.slice none 0 0] 1 hb (by simp [maxLen]) rfl
  · exact (Reps.none _ _).snoc (p := (([] : List Int), 0)) (c := [.slice none 0 0]) ⟨_, rfl, Kd.R_nil _ _ _ _ _⟩ rfl
theorem str_start {w0 w1 w2 : World} (hh : HashOf w2 w1.heap.size [] (.slice none 0 0)) (h01 : Fr No w0 w1) (h12 : Fr No w1 w2) (ss : SL) :
    StrI w0 ss ((w2.alloc (.cells #[.pointer (some ⟨w1.heap.size, 0, none⟩)] 31)).alloc (.cells #[.slice none 0 0] 22)) (.slice (some ⟨w2.heap.size, 0, none⟩) 1 1) (.slice (some ⟨w2.heap.size + 1, 0, none⟩) 1 1) 0 1 := by
  have hlt := hh.blk.lt
  have h02 : Fr No w0 w2 := h01.then_ h12
  have hz1 := h01.size
  have hz2 := h02.size
  have hza : (w2.alloc (.cells #[.pointer (some ⟨w1.heap.size, 0, none⟩)] 31)).heap.size = w2.heap.size + 1 := by simp
  have hf1 : Fr No w2 (w2.alloc (.cells #[.pointer (some ⟨w1.heap.size, 0, none⟩)] 31)) := (Fr.refl No w2).alloc _
  have hr1 := ptr_row w2 w0.heap.size w1.heap.size (fun k => w0.heap.size ≤ k ∧ (if k < w2.heap.size then 2 else if k = w2.heap.size then 0 else 1) = 0) hz2 ⟨hz2, by simp⟩
  generalize w2.alloc (.cells #[.pointer (some ⟨w1.heap.size, 0, none⟩)] 31) = W at *
  have hf2 : Fr No W (W.alloc (.cells #[.slice none 0 0] 22)) := (Fr.refl No W).alloc _
  refine ⟨⟨[(w1.heap.size, [])], fun k => if k < w2.heap.size then 2 else if k = w2.heap.size then 0 else 1, rfl, ⟨Kd.R_below hr1 hf2.below, ?_, fun i hi => ?_⟩, fun h hh => ?_⟩, (h02.then_ hf1).then_ hf2⟩
  · have h := nil_row W w0.heap.size (fun k => w0.heap.size ≤ k ∧ (if k < w2.heap.size then 2 else if k = w2.heap.size then 0 else 1) = 1) (by omega) ⟨by omega, by rw [hza, if_neg (by omega), if_neg (by omega)]⟩
    rw [hza] at h
    exact h
  · obtain rfl : i = 0 := by simpa using hi
    exact ⟨.slice none 0 0, (hh.fr hf1 id (fun _ _ => id)).fr hf2 id (fun _ _ => id), hz1, if_pos hlt, fun k hk => by simp [Value.ownBlock] at hk⟩
  · obtain rfl := List.mem_singleton.1 hh
    simp [stepsBulk]
set_option maxRecDepth 100000 in
set_option maxHeartbeats 8000000 in
theorem streams_walk (w : World) (ss : SL) (A : Option Addr) (c : Nat) (hr : StepsR w A ss) (hc : ss.length ≤ c) (hb : stepsBulk ss ≤ 1048576) (hK : KAt w) (hF : FirstAt w) (hQ : KeysAt w) :
    Calls Tryd.prog 7 #[.slice A ss.length c] w fun e w' => e = .returned (.bool true) ∧ Fr No w w' := by
  have HR := Aside0.mk hr; have HT := Aside0.mk (And.intro hK (And.intro hF hQ)); have HB := Aside0.mk hb
  have hn : ss.length ≤ 1048576 := Nat.le_trans (stepsBulk_length ss) hb
  have HKL := Aside0.mk hK.lt
  clear hr hK hF hQ hb
  go_enter Tryd.func7, Tryd.ntmps7
  go_wp2_with fail
  refine (head_calls w HT.out.1 HT.out.2.1).mono ?_
  rintro e w1 ⟨rfl, hf⟩
  have HF := Aside0.mk hf
  clear hf
  go_wp2_with fail
  refine (new_calls w1 (HT.out.2.1.fr HF.out id)).mono ?_
  rintro e w2 ⟨rfl, hh, hf⟩
  have HH := Aside0.mk hh
  have HF2 := Aside0.mk hf
  have HZ := Aside0.mk HF.out.size
  clear hh hf
  go_wp2_with fail
  have HST := Aside0.mk (str_start HH.out HF.out HF2.out ss)
  clear HH HF2
  generalize ((w2.alloc (.cells #[.pointer (some ⟨w1.heap.size, 0, none⟩)] 31)).alloc (.cells #[.slice none 0 0] 22)) = W2 at HST ⊢
  generalize w2.heap.size = gp at HST ⊢
  go_loopw [4, 5, 6] (fun va vh i wr => ∃ k n ga ca gb cb : Nat, k ≤ ss.length ∧ 1 ≤ n ∧ n ≤ 64 ∧ va = .slice (some ⟨ga, 0, none⟩) n ca ∧ vh = .slice (some ⟨gb, 0, none⟩) n cb ∧ i = .int .i64 k ∧ Aside0 (StrI w ss wr (.slice (some ⟨ga, 0, none⟩) n ca) (.slice (some ⟨gb, 0, none⟩) n cb) k n)) (fun _ _ i _ => ss.length - (intOf i).toNat)
  case atStart => exact ⟨0, 1, gp, 1, gp + 1, 1, by omega, by omega, by omega, rfl, rfl, rfl, HST⟩
  case round =>
    clear HST HF HZ
    obtain ⟨k, n, ga, ca, gb, cb, hk, hn1, hn64, rfl, rfl, rfl, HI⟩ := hrel
    by_cases hlt : k < ss.length
    · have HF := Aside0.mk HI.out.fr
      obtain ⟨sd, hA, hcs⟩ := HR.out (by omega)
      subst hA
      obtain ⟨Di, di, t0, t1, t2, hdi, hdr⟩ := hcs k hlt
      have HBK : Aside0 (stepsBulk (ss.take (k + 1)) = stepsBulk (ss.take k) + ((ss[k]'hlt).2.2.length + 1)) := ⟨by rw [List.take_succ_eq_append_getElem hlt, stepsBulk_append]; simp [stepsBulk]⟩
      have HBT : Aside0 (stepsBulk (ss.take (k + 1)) ≤ 1048576) := ⟨by
        have := stepsBulk_append (ss.take (k + 1)) (ss.drop (k + 1))
        rw [List.take_append_drop] at this
        have := HB.out
        omega⟩
      have htg : ∀ i u, (#[Value.int .i64 (ss[k]'hlt).1, .int .i64 (ss[k]'hlt).2.1, .slice Di (ss[k]'hlt).2.2.length di] : Array Value).toList[i]? = some u → wr.cell? ((sd.add (k * 3)).add i) = some u := fun i u hu => by
        rw [Go.Deep.add_add]
        match i with
        | 0 => obtain rfl : Value.int .i64 (ss[k]'hlt).1 = u := by simpa using hu
               exact HF.out.cell t0 id
        | 1 => obtain rfl : Value.int .i64 (ss[k]'hlt).2.1 = u := by simpa using hu
               exact HF.out.cell t1 id
        | 2 => obtain rfl : Value.slice Di (ss[k]'hlt).2.2.length di = u := by simpa using hu
               exact HF.out.cell t2 id
        | i + 3 => simp at hu
      have HTG := Aside0.mk htg
      have HDR := Aside0.mk hdr
      clear htg hcs t0 t1 t2 hdr
      obtain ⟨kd, wh, data, hs3⟩ : ∃ kd wh data, ss[k]'hlt = (kd, wh, data) := ⟨_, _, _, rfl⟩
      rw [hs3] at HTG HDR HBK hdi
      dsimp only at HTG HDR HBK hdi
      clear hs3
      have hki : (k : Int) < (ss.length : Int) := by omega
      go_upto_if 41 with (refine wpList_load_cellsP rfl _ _ rfl (sd.add (k * 3)) rfl #[.int .i64 kd, .int .i64 wh, .slice Di data.length di] _ HTG.out Tryd.underlying36 rfl rfl ?_)
      have hf1 : Fr No wr (wr.alloc (.cells #[.int .i64 kd, .int .i64 wh, .slice Di data.length di] 36)) := (Fr.refl No wr).alloc _
      have hbx : (wr.alloc (.cells #[.int .i64 kd, .int .i64 wh, .slice Di data.length di] 36)).heap[wr.heap.size]? = some (.cells #[.int .i64 kd, .int .i64 wh, .slice Di data.length di] 36 (0, 0)) := heap_alloc_new wr _
      obtain ⟨hs, lab, hn0, hS0, hBD0⟩ := HI.out.out
      obtain ⟨lab1, HS1, HLB⟩ : ∃ lab1 : Nat → Nat, Aside0 (StrS w.heap.size lab1 (wr.alloc (.cells #[.int .i64 kd, .int .i64 wh, .slice Di data.length di] 36)) (.slice (some ⟨ga, 0, none⟩) n ca) (.slice (some ⟨gb, 0, none⟩) n cb) hs) ∧ Aside0 (lab1 wr.heap.size = 1000) := ⟨_, ⟨(hS0.relabTo 1000).frN hf1⟩, ⟨if_neg (Nat.lt_irrefl _)⟩⟩
      have HNL := Aside0.mk hn0; have HBD := Aside0.mk hBD0
      have HF1 := Aside0.mk (HF.out.then_ hf1)
      have HDR1 := Aside0.mk (C_fr HDR.out HF1.out)
      have HBX := Aside0.mk hbx
      have HZB : Aside0 (wr.heap.size < (wr.alloc (.cells #[.int .i64 kd, .int .i64 wh, .slice Di data.length di] 36)).heap.size ∧ w.heap.size ≤ wr.heap.size) := ⟨by simp, HF.out.size⟩
      clear hf1 hbx hn0 hS0 hBD0 HTG HI HF
      generalize wr.alloc (.cells #[.int .i64 kd, .int .i64 wh, .slice Di data.length di] 36) = W1 at *
      generalize wr.heap.size = B at *
      have hb0 : W1.cell? ⟨B, 0, none⟩ = some (.int .i64 kd) := by simp [World.cell?, HBX.out]
      have hb2 : W1.cell? ⟨B, 2, none⟩ = some (.slice Di data.length di) := by simp [World.cell?, HBX.out]
      go_cut [8] (fun s8 wx => wx = W1 ∧ ∃ x : Nat, x < n ∧ s8 = .int .i64 x)
      case first =>
        obtain ⟨q, hq⟩ : ∃ q : Int, wh.tmod n = q := ⟨_, rfl⟩
        have hq1 : -(n : Int) < q := by subst hq; exact Int.lt_tmod_of_pos wh (by omega)
        have hq2 : q < n := by subst hq; exact Int.tmod_lt_of_pos _ (by omega)
        rw [hq]
        clear hq
        by_cases h0 : q < 0
        · go_wp2_with fail
          go_meet
          exact ⟨rfl, (q + n).toNat, by omega, by congr 1; omega⟩
        · go_wp2_with fail
          go_meet
          exact ⟨rfl, q.toNat, by omega, by congr 1; omega⟩
      case rest =>
        obtain ⟨hwc, x, hx, rfl⟩ := hcut
        rw [hwc]
        clear hwc
        have hxi : (x : Int) < (n : Int) := by omega
        have hxh : x < hs.length := by rw [HNL.out]; exact hx
        have HBK2 : Aside0 (∀ h ∈ hs, h.2.length ≤ stepsBulk (ss.take (k + 1))) := ⟨fun h hh => by have := HBD.out h hh; have := HBK.out; omega⟩
        have HSAME : Aside0 (StrI w ss W1 (.slice (some ⟨ga, 0, none⟩) n ca) (.slice (some ⟨gb, 0, none⟩) n cb) (k + 1) n) := ⟨⟨⟨hs, lab1, HNL.out, HS1.out, HBK2.out⟩, HF1.out⟩⟩
        by_cases k1 : kd = 1
        · subst k1
          by_cases hmax : n < 64
          · go_upto_if 56 with fail
            go_cut [9, 10] (fun s9 s10 wx => ∃ (p : Nat) (l : List UInt8) (lab2 : Nat → Nat), s9 = .pointer (some ⟨p, 0, none⟩) ∧ ∃ (VA : Option Addr) (vc : Nat), s10 = .slice VA l.length vc ∧ Aside0 (NewS w.heap.size lab2 wx (.slice (some ⟨ga, 0, none⟩) n ca) (.slice (some ⟨gb, 0, none⟩) n cb) hs p (.slice VA l.length vc) l) ∧ Aside0 (l.length ≤ stepsBulk (ss.take k)) ∧ Aside0 (Fr No w wx))
            case first =>
              go_wp2_with fail
              refine (new_calls W1 (HT.out.2.1.fr HF1.out id)).mono ?_
              rintro e w3 ⟨rfl, hh, hf⟩
              have HH := Aside0.mk hh; have HF3 := Aside0.mk hf
              clear hh hf
              go_wp2_with fail
              go_meet
              refine ⟨W1.heap.size, [], fun k => if k < W1.heap.size then lab1 k else hs.length + 2, rfl, none, 0, rfl, ⟨⟨(HS1.out.relabTo (hs.length + 2)).frN HF3.out, ⟨.slice none 0 0, HH.out, HF1.out.size, if_neg (Nat.lt_irrefl _), fun k hk => by simp [Value.ownBlock] at hk⟩, Kd.R_nil _ _ _ _ _⟩⟩, ⟨by simp⟩, ⟨HF1.out.then_ HF3.out⟩⟩
            case rest =>
              obtain ⟨p, l, lab2, rfl, VA, vc, rfl, HNS, HLL, HFC⟩ := hcut
              have HZC := Aside0.mk HFC.out.size
              have HO1 := Aside0.mk (HNS.out.one HZC.out)
              have hl1 : ((hs.map (·.1)).length + 1) * 8 ≤ 140737488355328 := by rw [List.length_map, HNL.out]; omega
              have hl2 : (((hs.map (·.2)).map bi).length + 1) * 24 ≤ 140737488355328 := by rw [List.length_map, List.length_map, HNL.out]; omega
              have HE1 : Aside0 ((hs.map (·.1) ++ [p]).length = n + 1) := ⟨by simp [HNL.out]⟩
              have HE2 : Aside0 (((hs.map (·.2)).map bi ++ [bi l]).length = n + 1) := ⟨by simp [HNL.out]⟩
              have HP1 : Aside0 (0 < (hs.map (·.1) ++ [p]).length) := ⟨by rw [HE1.out]; omega⟩
              have HP2 : Aside0 (0 < ((hs.map (·.2)).map bi ++ [bi l]).length) := ⟨by rw [HE2.out]; omega⟩
              have HN64 : Aside0 (hs.length ≤ 64) := ⟨by rw [HNL.out]; exact hn64⟩
              clear hb0 hb2
              have tok1 : True := trivial
              go_wp2_with (first
                | (at_builtin; have _t := tok1; refine Kd.R_append KP (w0 := wc) w.heap.size rfl (.tmp 71) (.tmp 73) 33 31 (.pointer none) 8 rfl Tryd.underlying33 infoPtr rfl (Nat.succ_pos 0) (by decide) (.slice (some ⟨ga, 0, none⟩) n ca) (hs.map (·.1)) p [.pointer (some ⟨p, 0, none⟩)] (fun k => w.heap.size ≤ k ∧ (if k < wc.heap.size then lab2 k else 0) = 0) (fun _ => False) rfl rfl rfl (fun _ h => h.elim) HO1.out.2 HO1.out.1 (Below.refl _ _) HZC.out hl1 ?_
                   intro v1 w5 hr1 hb1 hg1 hat1
                   obtain ⟨g1, c1, hv1, _⟩ := Kd.R_form hr1 HP1.out
                   rw [HE1.out] at hv1
                   subst hv1
                   have HR1 := Aside0.mk hr1; have HG1 := Aside0.mk hg1; have HZ5 := Aside0.mk (Nat.le_trans HZC.out hg1.size)
                   have HO2 := Aside0.mk (HNS.out.two HZC.out hg1)
                   clear hr1 hb1 hg1 hat1 _t tok1)
                | (at_builtin; refine Kd.S_append KB (w0 := w5) (W := w5) w.heap.size rfl (.tmp 75) (.tmp 77) 34 22 (.slice none 0 0) 24 rfl Tryd.underlying34 infoRow rfl (Nat.succ_pos 0) (by decide) (.slice (some ⟨gb, 0, none⟩) n cb) ((hs.map (·.2)).map bi) (bi l) [.slice VA l.length vc] (fun k => w.heap.size ≤ k ∧ lab5 lab2 wc.heap.size w5.heap.size k = 1) (fun k => w.heap.size ≤ k ∧ (k < wc.heap.size ∧ lab2 k = 1001)) ?hs ?hx ?hp ?hokp ?hfresh ?HO ?HB ?hbase ?hl ?_
                   case hs => rfl
                   case hx => rfl
                   case hp => exact HO2.out.1
                   case hokp => exact HO2.out.2.2.1
                   case hfresh => exact HO2.out.2.2.2
                   case HO => exact HO2.out.2.1
                   case HB => exact Below.refl _ _
                   case hbase => exact HZ5.out
                   case hl => exact hl2
                   intro v2 w6 hr2 hb2 hg2 hat2
                   have HP := Aside0.mk (HNS.out.push HN64.out HZC.out HR1.out HG1.out hr2 hg2)
                   obtain ⟨g2, c2, hv2, _⟩ := Kd.S_form hr2 HP2.out
                   rw [HE2.out] at hv2
                   subst hv2
                   clear hr2 hb2 hg2 hat2))
              exact ⟨⟨k + 1, n + 1, g1, c1, g2, c2, by omega, by omega, by omega, rfl, rfl, by go_num, ⟨⟨⟨hs ++ [(p, l)], _, by simp [HNL.out], HP.out.1, fun h hh => by
                rcases List.mem_append.1 hh with hh | hh
                · exact HBK2.out h hh
                · rw [List.mem_singleton.1 hh]; have := HLL.out; have := HBK.out; show l.length ≤ _; omega⟩, HFC.out.trans HP.out.2 (fun b hb => .inr hb)⟩⟩⟩, by simp [intOf]; omega⟩
          · go_wp2_with fail
            exact ⟨⟨k + 1, n, ga, ca, gb, cb, by omega, hn1, hn64, rfl, rfl, by go_num, HSAME⟩, by simp [intOf]; omega⟩
        by_cases k4 : kd = 4
        · subst k4
          by_cases hmax : n < 64
          · go_upto_if 56 with fail
            go_cut [9, 10] (fun s9 s10 wx => ∃ (p : Nat) (l : List UInt8) (lab2 : Nat → Nat), s9 = .pointer (some ⟨p, 0, none⟩) ∧ ∃ (VA : Option Addr) (vc : Nat), s10 = .slice VA l.length vc ∧ Aside0 (NewS w.heap.size lab2 wx (.slice (some ⟨ga, 0, none⟩) n ca) (.slice (some ⟨gb, 0, none⟩) n cb) hs p (.slice VA l.length vc) l) ∧ Aside0 (l.length ≤ stepsBulk (ss.take k)) ∧ Aside0 (Fr No w wx))
            case first =>
              have hp1 := HS1.out.ptrAt HNL.out x hxh
              obtain ⟨rv, hH, hHb, hHl, hHr⟩ := HS1.out.hash x hxh
              have HH := Aside0.mk hH
              clear hH hHb hHl hHr
              go_wp2_with fail
              refine (fork_calls W1 _ _ rv HH.out).mono ?_
              rintro e w3 ⟨p, rv3, rfl, hp, hh, hr, hf⟩
              have HH3 := Aside0.mk hh; have HF3 := Aside0.mk hf; have HP3 := Aside0.mk (And.intro hp hr)
              have HS3 := Aside0.mk ((HS1.out.relabTo (hs.length + 2)).frN hf)
              obtain ⟨Ai, ci, hcx, hci, hrx⟩ := rows_at (held_rows HS3.out.held) x (by rw [List.length_map]; exact hxh)
              simp only [List.getElem_map] at hcx hci hrx
              have HRX := Aside0.mk hrx
              have HLX := Aside0.mk (HBD.out _ (List.getElem_mem hxh))
              have hll : ([] : List Int).length + (hs[x]'hxh).2.length ≤ 140737488355328 := by have := HLX.out; have := HBT.out; have := HBK.out; simp; omega
              clear hp hh hr hf hrx hp1
              generalize (hs[x]'hxh).2 = l at *
              go_wp2_with (at_builtin; refine app_row (w0 := w3) (S := No) rfl (.tmp 63) (.tmp 67) 22 rfl Tryd.underlying22 infoU8 (.slice none 0 0) [] (bi l) _ _ _ rfl rfl (Mine.nil _ _) HRX.out (Fr.refl No w3) hll ?_
                           intro v1 w4 hm1 hf1 hg1
                           have HM4 : Aside0 (Mine w4 w3.heap.size v1 (bi l)) := ⟨by simpa using hm1⟩
                           have HF4 := Aside0.mk hf1
                           clear hm1 hf1 hg1)
              go_meet
              obtain ⟨VA, vc, rfl, _, _⟩ := HM4.out.reads
              have hb13 : w.heap.size ≤ W1.heap.size := HF1.out.size
              have hb34 : W1.heap.size ≤ w3.heap.size := HF3.out.size
              have hplt : p < w3.heap.size := HH3.out.blk.lt
              refine ⟨p, l, fun k => if k < w3.heap.size then (if k < W1.heap.size then lab1 k else hs.length + 2) else 1001, rfl, VA, vc, rfl, ⟨⟨(HS3.out.relabTo 1001).frN HF4.out, ⟨rv3, HH3.out.fr HF4.out id (fun _ _ => id), by have := HP3.out.1; omega, ?_, fun k hk => ⟨?_, ?_⟩⟩, ?_⟩⟩, HLX, ⟨(HF1.out.then_ HF3.out).then_ HF4.out⟩⟩
              · rw [if_pos hplt, if_neg (by have := HP3.out.1; omega)]
              · have := HP3.out.2 k hk; omega
              · have h1 := (HH3.out.rest.base k hk).2
                rw [if_pos h1, if_neg (by have := HP3.out.2 k hk; omega)]
              · exact Kd.R_mono (Kd.R_lower (Kd.R_bound HM4.out) (by omega)) (fun k hk => ⟨by have := hk.2.1; omega, if_neg (by have := hk.2.1; omega)⟩)
            case rest =>
              obtain ⟨p, l, lab2, rfl, VA, vc, rfl, HNS, HLL, HFC⟩ := hcut
              have HZC := Aside0.mk HFC.out.size
              have HO1 := Aside0.mk (HNS.out.one HZC.out)
              have hl1 : ((hs.map (·.1)).length + 1) * 8 ≤ 140737488355328 := by rw [List.length_map, HNL.out]; omega
              have hl2 : (((hs.map (·.2)).map bi).length + 1) * 24 ≤ 140737488355328 := by rw [List.length_map, List.length_map, HNL.out]; omega
              have HE1 : Aside0 ((hs.map (·.1) ++ [p]).length = n + 1) := ⟨by simp [HNL.out]⟩
              have HE2 : Aside0 (((hs.map (·.2)).map bi ++ [bi l]).length = n + 1) := ⟨by simp [HNL.out]⟩
              have HP1 : Aside0 (0 < (hs.map (·.1) ++ [p]).length) := ⟨by rw [HE1.out]; omega⟩
              have HP2 : Aside0 (0 < ((hs.map (·.2)).map bi ++ [bi l]).length) := ⟨by rw [HE2.out]; omega⟩
              have HN64 : Aside0 (hs.length ≤ 64) := ⟨by rw [HNL.out]; exact hn64⟩
              clear hb0 hb2
              have tok1 : True := trivial
              go_wp2_with (first
                | (at_builtin; have _t := tok1; refine Kd.R_append KP (w0 := wc) w.heap.size rfl (.tmp 71) (.tmp 73) 33 31 (.pointer none) 8 rfl Tryd.underlying33 infoPtr rfl (Nat.succ_pos 0) (by decide) (.slice (some ⟨ga, 0, none⟩) n ca) (hs.map (·.1)) p [.pointer (some ⟨p, 0, none⟩)] (fun k => w.heap.size ≤ k ∧ (if k < wc.heap.size then lab2 k else 0) = 0) (fun _ => False) rfl rfl rfl (fun _ h => h.elim) HO1.out.2 HO1.out.1 (Below.refl _ _) HZC.out hl1 ?_
                   intro v1 w5 hr1 hb1 hg1 hat1
                   obtain ⟨g1, c1, hv1, _⟩ := Kd.R_form hr1 HP1.out
                   rw [HE1.out] at hv1
                   subst hv1
                   have HR1 := Aside0.mk hr1; have HG1 := Aside0.mk hg1; have HZ5 := Aside0.mk (Nat.le_trans HZC.out hg1.size)
                   have HO2 := Aside0.mk (HNS.out.two HZC.out hg1)
                   clear hr1 hb1 hg1 hat1 _t tok1)
                | (at_builtin; refine Kd.S_append KB (w0 := w5) (W := w5) w.heap.size rfl (.tmp 75) (.tmp 77) 34 22 (.slice none 0 0) 24 rfl Tryd.underlying34 infoRow rfl (Nat.succ_pos 0) (by decide) (.slice (some ⟨gb, 0, none⟩) n cb) ((hs.map (·.2)).map bi) (bi l) [.slice VA l.length vc] (fun k => w.heap.size ≤ k ∧ lab5 lab2 wc.heap.size w5.heap.size k = 1) (fun k => w.heap.size ≤ k ∧ (k < wc.heap.size ∧ lab2 k = 1001)) ?hs ?hx ?hp ?hokp ?hfresh ?HO ?HB ?hbase ?hl ?_
                   case hs => rfl
                   case hx => rfl
                   case hp => exact HO2.out.1
                   case hokp => exact HO2.out.2.2.1
                   case hfresh => exact HO2.out.2.2.2
                   case HO => exact HO2.out.2.1
                   case HB => exact Below.refl _ _
                   case hbase => exact HZ5.out
                   case hl => exact hl2
                   intro v2 w6 hr2 hb2 hg2 hat2
                   have HP := Aside0.mk (HNS.out.push HN64.out HZC.out HR1.out HG1.out hr2 hg2)
                   obtain ⟨g2, c2, hv2, _⟩ := Kd.S_form hr2 HP2.out
                   rw [HE2.out] at hv2
                   subst hv2
                   clear hr2 hb2 hg2 hat2))
              exact ⟨⟨k + 1, n + 1, g1, c1, g2, c2, by omega, by omega, by omega, rfl, rfl, by go_num, ⟨⟨⟨hs ++ [(p, l)], _, by simp [HNL.out], HP.out.1, fun h hh => by
                rcases List.mem_append.1 hh with hh | hh
                · exact HBK2.out h hh
                · rw [List.mem_singleton.1 hh]; have := HLL.out; have := HBK.out; show l.length ≤ _; omega⟩, HFC.out.trans HP.out.2 (fun b hb => .inr hb)⟩⟩⟩, by simp [intOf]; omega⟩
          · go_wp2_with fail
            exact ⟨⟨k + 1, n, ga, ca, gb, cb, by omega, hn1, hn64, rfl, rfl, by go_num, HSAME⟩, by simp [intOf]; omega⟩
        have k1b : (kd == 1) = false := beq_eq_false_iff_ne.2 k1
        have k4b : (kd == 4) = false := beq_eq_false_iff_ne.2 k4
        by_cases k2 : kd = 2
        · subst k2
          clear k1 k4 k1b k4b
          have hdl : data.length ≤ 140737488351232 := by have := HBK.out; have := HBT.out; omega
          go_wp2_with fail
          refine (roomy_calls data Di di W1 HDR1.out hdl).mono ?_
          rintro e w3 ⟨gm, rfl, hg, hm, hf⟩
          obtain ⟨lab3, HS3, HLM, HLB3⟩ : ∃ lab3 : Nat → Nat, Aside0 (StrS w.heap.size lab3 w3 (.slice (some ⟨ga, 0, none⟩) n ca) (.slice (some ⟨gb, 0, none⟩) n cb) hs) ∧ Aside0 (lab3 gm = 1000) ∧ Aside0 (lab3 B = 1000) := ⟨_, ⟨(HS1.out.relabTo 1000).frN hf⟩, ⟨if_neg (by omega)⟩, ⟨by rw [if_pos HZB.out.1]; exact HLB.out⟩⟩
          have hp1 := HS3.out.ptrAt HNL.out x hxh
          obtain ⟨rv, hH, hHb, hHl, hHr⟩ := HS3.out.hash x hxh
          have hc3 := hf.cell hb2 id
          have HM := Aside0.mk hm; have HF3 := Aside0.mk (HF1.out.then_ hf); have HH := Aside0.mk hH; have HHR := Aside0.mk (And.intro hHb (And.intro hHl hHr))
          have HGM : Aside0 (W1.heap.size ≤ gm ∧ gm < w3.heap.size) := ⟨hg, Blk.lt hm⟩
          have HZ3 := Aside0.mk hf.size
          have HC3 := Aside0.mk hc3
          have HNS : Aside0 (∀ q, lab3 q = 1000 → ¬ (q = (hs[x]'hxh).1 ∨ rv.ownBlock = some q)) := ⟨fun q hq h => by
            rcases h with rfl | h
            · omega
            · have := (hHr q h).2; omega⟩
          have HLEN : Aside0 ((hs[x]'hxh).2.length + data.length ≤ stepsBulk (ss.take (k + 1))) := ⟨by have := HBD.out _ (List.getElem_mem hxh); have := HBK.out; omega⟩
          clear hm hf hH hg hb0 hb2 hHb hHl hHr hc3
          go_wp2_with fail
          refine (add_callsN w3 _ _ rv HH.out data data.length rfl (some ⟨gm, 0, none⟩) (data.length + 6) (by omega) (fun w' hf' => Room.le (Blk.fr HM.out hf' (HNS.out gm HLM.out)) hdl) (by have := HLEN.out; have := HBT.out; omega) (HT.out.1.fr HF3.out id) (by have := HHR.out.1; have := HKL.out; omega) (fun e => by have := (HHR.out.2.2 _ e).1; have := HKL.out; omega)).mono ?_
          rintro e w4 ⟨rv4, rfl, hh4, hr4, hf4⟩
          obtain ⟨lab4, HM4, HLM4, HLB4⟩ : ∃ lab4 : Nat → Nat, Aside0 (StrM w.heap.size lab4 w4 (.slice (some ⟨ga, 0, none⟩) n ca) (.slice (some ⟨gb, 0, none⟩) n cb) hs x ((hs[x]'hxh).2 ++ data)) ∧ Aside0 (lab4 gm = 1000) ∧ Aside0 (lab4 B = 1000) := ⟨_, ⟨(HS3.out.relabTo (x + 2)).added x hxh _ hf4 (fun q hq h => by
            rw [if_pos hq]
            rcases h with rfl | h
            · exact HHR.out.2.1
            · exact (HHR.out.2.2 q h).2) hh4 (fun q hq => by
            rcases hr4 q hq with h | h
            · have h1 := HHR.out.2.2 q h
              have h2 := (HH.out.rest.base q h).2
              exact ⟨h1.1, by rw [if_pos h2]; exact h1.2⟩
            · exact ⟨by have := HF3.out.size; omega, if_neg (by omega)⟩)⟩, ⟨by rw [if_pos HGM.out.2]; exact HLM.out⟩, ⟨by rw [if_pos (by have := HZB.out.1; have := HZ3.out; omega)]; exact HLB3.out⟩⟩
          have HRM := Aside0.mk (Blk.fr HM.out hf4 (HNS.out gm HLM.out))
          have hc4 := hf4.cell HC3.out (HNS.out B HLB3.out)
          have HF4 : Aside0 (Fr No w w4) := ⟨HF3.out.trans hf4 (fun b hb => .inr (by
            rcases hb with rfl | hb
            · exact HHR.out.1
            · exact (HHR.out.2.2 b hb).1))⟩
          have HZ4 := Aside0.mk hf4.size
          have HC4 := Aside0.mk hc4
          clear hh4 hr4 hf4 hp1
          go_wp2_with fail
          refine (kept_calls data gm Di di w4 HRM.out (C_fr HDR.out HF4.out) hdl).mono ?_
          rintro e w5 ⟨rfl, rfl⟩
          clear hc4
          go_wp2_with fail
          obtain ⟨wx, rfl⟩ : ∃ wx, wx = w4 := ⟨_, rfl⟩
          go_loopw [12] (fun i wr => ∃ (j : Nat) (xs : List Int), j ≤ data.length ∧ i = .int .i64 j ∧ Aside0 (xs.length = data.length + 6) ∧ Aside0 (Blk wr gm xs) ∧ Aside0 (Fr (fun k => k = gm) wx wr)) (fun i _ => data.length - (intOf i).toNat)
          case atStart => exact ⟨0, _, by omega, rfl, ⟨by simp [bi, six]⟩, HRM, ⟨Fr.refl _ _⟩⟩
          case round =>
            clear HRM HM
            obtain ⟨j, xs, hj, rfl, HXL, HX, HFG⟩ := hrel
            by_cases hlj : j < data.length
            · have hc9 := Blk.cell HX.out j (by rw [HXL.out]; omega)
              have hfz := Blk.free HX.out j
              have HP := Aside0.mk (Blk.set HX.out j 3)
              have HXL2 : Aside0 ((xs.set j 3).length = data.length + 6) := ⟨by rw [List.length_set]; exact HXL.out⟩
              clear HX
              go_wp2_with fail
              exact ⟨⟨j + 1, _, by omega, by go_num, HXL2, HP, ⟨HFG.out.setCell (.inl rfl) _⟩⟩, by simp [intOf]; omega⟩
            · obtain ⟨w5, hw5⟩ : ∃ w5, w5 = wr := ⟨_, rfl⟩
              rw [← hw5] at HFG ⊢
              have HMB := Aside0.mk (HM4.out.fr HFG.out (fun q hq e => by subst e; rw [HLM4.out, HNL.out]; omega))
              have HM5 := Aside0.mk (HMB.out.relabTo 1)
              have HF5 : Aside0 (Fr No w w5) := ⟨HF4.out.trans HFG.out (fun b hb => .inr (by subst hb; have := HGM.out.1; have := HF1.out.size; omega))⟩
              have HC7 : Aside0 (w5.drew.cell? ⟨B, 2, none⟩ = some (.slice Di data.length di)) := ⟨((HFG.out.cell HC4.out (show ¬ B = gm by have := HGM.out.1; have := HZB.out.1; omega) : w5.cell? ⟨B, 2, none⟩ = _))⟩
              have HDW : Aside0 (Kd.C (Kd.int .u8) w5.drew Di data.length (bi data)) := ⟨C_fr HDR.out HF5.out.drew⟩
              obtain ⟨l, hle⟩ : ∃ l, (hs[x]'hxh).2 = l := ⟨_, rfl⟩
              have HLE := Aside0.mk hle
              rw [hle] at HM5 HLEN
              have hgbl : gb < w5.heap.size := Kd.S_lt HM5.out.held gb (by simp [Value.ownBlock])
              obtain ⟨cells, hcells⟩ := Kd.S_typed HM5.out.held gb (by simp [Value.ownBlock])
              have hgb1 := (Kd.S_R HM5.out.held).1 gb (by simp [Value.ownBlock])
              obtain ⟨okg, hokg⟩ : ∃ okg : Nat → Prop, okg = fun q => w.heap.size ≤ q ∧ (if q < w5.heap.size then lab4 q else 1) = 1 := ⟨_, rfl⟩
              obtain ⟨oki, v, hcv, hR, hki, hput⟩ := held_put HM5.out.held x hx okg (fun q hq => by rw [hokg] at hq; exact hq) hgbl
              have hgd : (((hs.map (·.2)).map bi).getD x []) = bi l := by
                rw [List.getD_eq_getElem?_getD, List.getElem?_eq_getElem (by simpa using hxh)]
                simp [hle]
              rw [hgd] at hR
              obtain ⟨VA, vc, rfl, hvc, hrv⟩ := Kd.R_reads hR
              rw [bi_length] at hcv hR
              have HC5 : Aside0 (w5.drew.cell? ⟨gb, x, none⟩ = some (.slice VA l.length vc)) := ⟨hcv⟩
              have HRW : Aside0 (Kd.R (Kd.int .u8) 5 w5.drew w.heap.size (fun k => oki k ∨ (w5.heap.size ≤ k ∧ okg k)) (.slice VA l.length vc) (bi l)) := ⟨Kd.R_below (Kd.R_mono hR (fun k hk => .inl hk)) (below_drew (Below.refl _ _))⟩
              have HFRE : Aside0 (∀ k, w5.drew.heap.size ≤ k → oki k ∨ (w5.heap.size ≤ k ∧ okg k)) := ⟨fun q hq => .inr ⟨hq, by rw [hokg]; exact ⟨Nat.le_trans HF5.out.size hq, if_neg (Nat.not_lt.2 hq)⟩⟩⟩
              have HZW : Aside0 (w.heap.size ≤ w5.drew.heap.size) := ⟨HF5.out.size⟩
              have HLW : Aside0 ((bi l).length + data.length ≤ 140737488355328) := ⟨by rw [bi_length]; have := HLEN.out; have := HBT.out; omega⟩
              have HGO : Aside0 (∀ w1, w5.drew.grownBy w1 (Value.slice VA l.length vc).ownBlock → Fr oki w5 w1) := ⟨fun w1 hg => (Fr.refl oki w5).drew.grown hg (fun q hq => .inl (hR.1 q hq))⟩
              have HCZ : Aside0 (∀ W, Fr oki w5 W → W.cell? ⟨gb, x, none⟩ = some (.slice VA l.length vc)) := ⟨fun W hf => hf.cell hcv (fun h => (hki _ h).2.1 rfl)⟩
              have HFZ : Aside0 (∀ W, Fr oki w5 W → W.frozen? ⟨gb, x, none⟩ = false) := ⟨fun W hf => by
                have := hf.heap hcells (fun h => (hki _ h).2.1 rfl)
                simp [World.frozen?, this]⟩
              have HPUT := Aside0.mk hput
              have HLK : Aside0 (∀ q, (oki q ∨ q = gb) → (if q < w5.heap.size then lab4 q else 1) = 1) := ⟨fun q hq => by
                rcases hq with hq | rfl
                · exact (hki q hq).1.2
                · exact hgb1.2⟩
              have HLK2 : Aside0 (∀ q, (oki q ∨ q = gb) → w.heap.size ≤ q) := ⟨fun q hq => by
                rcases hq with hq | rfl
                · exact (hki q hq).1.1
                · exact hgb1.1⟩
              clear hle hgbl hcells hgb1 hokg hcv hR hki hput hgd hvc hrv hw5 HMB HX HM4 HFG HH HS1 HSAME
              go_wp2_with fail
              refine region_jb (by kernel_rfl) 157 rfl addSl [104, 105, 106, 107, 108, 109, 110, 111, 112, 113] 0 (addF gb n cb x B VA Di l.length vc data.length di) (AppE 8 10 112 w5.drew (AddP w.heap.size oki okg w5 (l ++ data)) (FinP w.heap.size oki okg w5 (l ++ data) gb x)) (fun vs => AppE.start _ vs) (by decide +kernel) (by decide +kernel) (by decide +kernel) ?_ ?_
              · intro listed vs W i o b hj ho hu hb hin hout hyl K hK
                have hlt : i < 11 := (Array.getElem?_eq_some_iff.1 ho).1
                have : i = 0 ∨ i = 1 ∨ i = 2 ∨ i = 3 ∨ i = 4 ∨ i = 5 ∨ i = 6 ∨ i = 7 ∨ i = 8 ∨ i = 9 ∨ i = 10 := by omega
                rcases this with rfl | rfl | rfl | rfl | rfl | rfl | rfl | rfl | rfl | rfl | rfl
                · obtain rfl := Option.some.inj (show some _ = some o from ho)
                  have HST := Aside0.mk (fun (v : Value) (w' : World) h1 h2 h3 => hK v w' h1 h2 h3)
                  have HJE := Aside0.mk hj.ext
                  have r5 : b.tmps[5]?.getD undef = .slice (some ⟨gb, 0, none⟩) n cb := (hout 5 (by decide +kernel)).trans rfl
                  refine wpOp_of ho rfl ?_
                  clear hK ho hb hu hj hin hout hyl
                  go_simp
                  exact HST.out _ _ (fun _ _ _ _ h => h) rfl (HJE.out.keep 0 104 _ (by decide))
                · obtain rfl := Option.some.inj (show some _ = some o from ho)
                  have HST := Aside0.mk (fun (v : Value) (w' : World) h1 h2 h3 => hK v w' h1 h2 h3)
                  have HJE := Aside0.mk hj.ext
                  have r8 : b.tmps[8]?.getD undef = .int .i64 x := (hout 8 (by decide +kernel)).trans rfl
                  refine wpOp_of ho rfl ?_
                  clear hK ho hb hu hj hin hout hyl
                  go_simp
                  exact HST.out _ _ (fun _ _ _ _ h => h) rfl (HJE.out.keep 1 105 _ (by decide))
                · obtain rfl := Option.some.inj (show some _ = some o from ho)
                  have HST := Aside0.mk (fun (v : Value) (w' : World) h1 h2 h3 => hK v w' h1 h2 h3)
                  have HJE := Aside0.mk hj.ext
                  have r5 : b.tmps[5]?.getD undef = .slice (some ⟨gb, 0, none⟩) n cb := (hout 5 (by decide +kernel)).trans rfl
                  refine wpOp_of ho rfl ?_
                  clear hK ho hb hu hj hin hout hyl
                  go_simp
                  exact HST.out _ _ (fun _ _ _ _ h => h) rfl (HJE.out.keep 2 106 _ (by decide))
                · obtain rfl := Option.some.inj (show some _ = some o from ho)
                  have HST := Aside0.mk (fun (v : Value) (w' : World) h1 h2 h3 => hK v w' h1 h2 h3)
                  have HJE := Aside0.mk hj.ext
                  have r8 : b.tmps[8]?.getD undef = .int .i64 x := (hout 8 (by decide +kernel)).trans rfl
                  refine wpOp_of ho rfl ?_
                  clear hK ho hb hu hj hin hout hyl
                  go_simp
                  exact HST.out _ _ (fun _ _ _ _ h => h) rfl (HJE.out.keep 3 107 _ (by decide))
                · obtain rfl := Option.some.inj (show some _ = some o from ho)
                  have e2 : addF gb n cb x B VA Di l.length vc data.length di 2 (vs 106) W := hj.all 2 (by decide) (hb ⟨2, .data⟩ (by simp) rfl) (fun h => absurd h (by decide))
                  replace e2 : vs 106 = .slice (some ⟨gb, 0, none⟩) n cb := e2
                  have e3 : addF gb n cb x B VA Di l.length vc data.length di 3 (vs 107) W := hj.all 3 (by decide) (hb ⟨3, .data⟩ (by simp) rfl) (fun h => absurd h (by decide))
                  replace e3 : vs 107 = .int .i64 x := e3
                  have HST := Aside0.mk (fun (v : Value) (w' : World) h1 h2 h3 => hK v w' h1 h2 h3)
                  have HJE := Aside0.mk hj.ext
                  have r106 : b.tmps[106]?.getD undef = .slice (some ⟨gb, 0, none⟩) n cb := (hin 106 (by decide +kernel)).trans e2
                  have r107 : b.tmps[107]?.getD undef = .int .i64 x := (hin 107 (by decide +kernel)).trans e3
                  refine wpOp_of ho rfl ?_
                  clear hK ho hb hu hj hin hout hyl
                  go_simp
                  exact HST.out _ _ (fun _ _ _ _ h => h) rfl (HJE.out.keep 4 108 _ (by decide))
                · obtain rfl := Option.some.inj (show some _ = some o from ho)
                  have e4 : addF gb n cb x B VA Di l.length vc data.length di 4 (vs 108) W := hj.all 4 (by decide) (hb ⟨4, .data⟩ (by simp) rfl) (fun h => absurd h (by decide))
                  replace e4 : vs 108 = .pointer (some ⟨gb, x, none⟩) := e4
                  have HST := Aside0.mk (fun (v : Value) (w' : World) h1 h2 h3 => hK v w' h1 h2 h3)
                  have HJE := Aside0.mk hj.ext
                  have h8 : listed.getD 8 false = false := by
                    cases hc : listed.getD 8 false with
                    | false => rfl
                    | true => exact absurd (hj.dep 8 _ rfl hc ⟨5, .data⟩ (by simp) rfl) (by rw [hu]; decide)
                  have HWE := Aside0.mk (hj.ext.a h8)
                  clear h8
                  have r108 : b.tmps[108]?.getD undef = .pointer (some ⟨gb, x, none⟩) := (hin 108 (by decide +kernel)).trans e4
                  refine wpOp_of ho rfl ?_
                  clear hK ho hb hu hj hin hout hyl
                  have hcl := HWE.out ▸ HC5.out
                  go_simp
                  exact HST.out _ _ (fun _ _ _ _ h => h) rfl (HJE.out.keep 5 109 _ (by decide))
                · obtain rfl := Option.some.inj (show some _ = some o from ho)
                  have HST := Aside0.mk (fun (v : Value) (w' : World) h1 h2 h3 => hK v w' h1 h2 h3)
                  have HJE := Aside0.mk hj.ext
                  have r7 : b.tmps[7]?.getD undef = .pointer (some ⟨B, 0, none⟩) := (hout 7 (by decide +kernel)).trans rfl
                  refine wpOp_of ho rfl ?_
                  clear hK ho hb hu hj hin hout hyl
                  go_simp
                  exact HST.out _ _ (fun _ _ _ _ h => h) rfl (HJE.out.keep 6 110 _ (by decide))
                · obtain rfl := Option.some.inj (show some _ = some o from ho)
                  have e6 : addF gb n cb x B VA Di l.length vc data.length di 6 (vs 110) W := hj.all 6 (by decide) (hb ⟨6, .data⟩ (by simp) rfl) (fun h => absurd h (by decide))
                  replace e6 : vs 110 = .pointer (some ⟨B, 2, none⟩) := e6
                  have HST := Aside0.mk (fun (v : Value) (w' : World) h1 h2 h3 => hK v w' h1 h2 h3)
                  have HJE := Aside0.mk hj.ext
                  have h8 : listed.getD 8 false = false := by
                    cases hc : listed.getD 8 false with
                    | false => rfl
                    | true => exact absurd (hj.dep 8 _ rfl hc ⟨7, .data⟩ (by simp) rfl) (by rw [hu]; decide)
                  have HWE := Aside0.mk (hj.ext.a h8)
                  clear h8
                  have r110 : b.tmps[110]?.getD undef = .pointer (some ⟨B, 2, none⟩) := (hin 110 (by decide +kernel)).trans e6
                  refine wpOp_of ho rfl ?_
                  clear hK ho hb hu hj hin hout hyl
                  have hcl := HWE.out ▸ HC7.out
                  go_simp
                  exact HST.out _ _ (fun _ _ _ _ h => h) rfl (HJE.out.keep 7 111 _ (by decide))
                · obtain rfl := Option.some.inj (show some _ = some o from ho)
                  have e5 : addF gb n cb x B VA Di l.length vc data.length di 5 (vs 109) W := hj.all 5 (by decide) (hb ⟨5, .data⟩ (by simp) rfl) (fun h => absurd h (by decide))
                  replace e5 : vs 109 = .slice VA l.length vc := e5
                  have e7 : addF gb n cb x B VA Di l.length vc data.length di 7 (vs 111) W := hj.all 7 (by decide) (hb ⟨7, .data⟩ (by simp) rfl) (fun h => absurd h (by decide))
                  replace e7 : vs 111 = .slice Di data.length di := e7
                  have HST := Aside0.mk (fun (v : Value) (w' : World) h1 h2 h3 => hK v w' h1 h2 h3)
                  have HWE := Aside0.mk (hj.ext.a hu)
                  have HSZ := Aside0.mk hj.size
                  have h10 : listed.getD 10 false = false := by
                    cases hc : listed.getD 10 false with
                    | false => rfl
                    | true => exact absurd (hj.dep 10 _ rfl hc ⟨8, .data⟩ (by simp) rfl) (by rw [hu]; decide)
                  have H10 := Aside0.mk h10
                  clear h10
                  have r109 : b.tmps[109]?.getD undef = .slice VA l.length vc := (hin 109 (by decide +kernel)).trans e5
                  have r111 : b.tmps[111]?.getD undef = .slice Di data.length di := (hin 111 (by decide +kernel)).trans e7
                  refine wpOp_of ho rfl ?_
                  clear hK ho hb hu hj hin hout hyl
                  have hW := HWE.out
                  subst hW
                  refine app_row_wp w.heap.size rfl (.tmp 109) (.tmp 111) 22 (by rfl) Tryd.underlying22 infoU8 (fun k => oki k ∨ (w5.heap.size ≤ k ∧ okg k)) (.slice VA l.length vc) (bi l) (bi data) Di data.length di (eval_of r109) (eval_of r111) HRW.out HDW.out HFRE.out HZW.out HLW.out ?_
                  intro v1 w1 hr1 hg1
                  exact HST.out v1 w1 (fun _ _ _ _ h => addF_w h) trivial (AppE.app HSZ.out (by decide) (by decide) H10.out v1 ⟨by rw [bi_append]; exact hr1, HGO.out w1 hg1⟩)
                · obtain rfl := Option.some.inj (show some _ = some o from ho)
                  have e0 : addF gb n cb x B VA Di l.length vc data.length di 0 (vs 104) W := hj.all 0 (by decide) (hb ⟨0, .data⟩ (by simp) rfl) (fun h => absurd h (by decide))
                  replace e0 : vs 104 = .slice (some ⟨gb, 0, none⟩) n cb := e0
                  have e1 : addF gb n cb x B VA Di l.length vc data.length di 1 (vs 105) W := hj.all 1 (by decide) (hb ⟨1, .data⟩ (by simp) rfl) (fun h => absurd h (by decide))
                  replace e1 : vs 105 = .int .i64 x := e1
                  have HST := Aside0.mk (fun (v : Value) (w' : World) h1 h2 h3 => hK v w' h1 h2 h3)
                  have HJE := Aside0.mk hj.ext
                  have r104 : b.tmps[104]?.getD undef = .slice (some ⟨gb, 0, none⟩) n cb := (hin 104 (by decide +kernel)).trans e0
                  have r105 : b.tmps[105]?.getD undef = .int .i64 x := (hin 105 (by decide +kernel)).trans e1
                  refine wpOp_of ho rfl ?_
                  clear hK ho hb hu hj hin hout hyl
                  go_simp
                  exact HST.out _ _ (fun _ _ _ _ h => h) rfl (HJE.out.keep 9 113 _ (by decide))
                · obtain rfl := Option.some.inj (show some _ = some o from ho)
                  have e9 : addF gb n cb x B VA Di l.length vc data.length di 9 (vs 113) W := hj.all 9 (by decide) (hb ⟨9, .data⟩ (by simp) rfl) (fun h => absurd h (by decide))
                  replace e9 : vs 113 = .pointer (some ⟨gb, x, none⟩) := e9
                  have HST := Aside0.mk (fun (v : Value) (w' : World) h1 h2 h3 => hK v w' h1 h2 h3)
                  have h8 := hb ⟨8, .data⟩ (by simp) rfl
                  have HAP := Aside0.mk (hj.ext.b h8 hu)
                  have H8 := Aside0.mk h8
                  have HSZ := Aside0.mk hj.size
                  clear h8
                  obtain ⟨A9, c9, e112, -, -⟩ := Kd.R_reads HAP.out.1
                  have HV9 := Aside0.mk e112
                  have r112 : b.tmps[112]?.getD undef = .slice A9 (bi (l ++ data)).length c9 := (hin 112 (by decide +kernel)).trans e112
                  clear e112
                  have r113 : b.tmps[113]?.getD undef = .pointer (some ⟨gb, x, none⟩) := (hin 113 (by decide +kernel)).trans e9
                  refine wpOp_of ho rfl ?_
                  clear hK ho hb hu hj hin hout hyl
                  have hcz := HCZ.out W HAP.out.2
                  have hfz := HFZ.out W HAP.out.2
                  go_simp
                  rw [← HV9.out]
                  exact HST.out undef _ (fun _ _ _ _ h => addF_w h) trivial (AppE.fin HSZ.out (by decide) (by decide) H8.out 9999 undef ⟨W, _, HAP.out, rfl⟩)
              · intro vs W hall hext
                obtain ⟨listed, hal, hE⟩ := hext
                have HFP := Aside0.mk (hE.d (hal 10 (by decide)))
                clear hall hal hE listed
                simp only [Jact_lit, List.foldl_cons, List.foldl_nil, List.setIfInBounds_toArray, List.set_cons_succ, List.set_cons_zero]
                generalize vs 104 = x104
                generalize vs 105 = x105
                generalize vs 106 = x106
                generalize vs 107 = x107
                generalize vs 108 = x108
                generalize vs 109 = x109
                generalize vs 110 = x110
                generalize vs 111 = x111
                generalize vs 112 = x112
                generalize vs 113 = x113
                clear vs
                obtain ⟨W0, v1, hAP, hWe⟩ := HFP.out
                have HST9 := Aside0.mk (HM5.out.done hxh (S := fun k => oki k ∨ k = gb) (w' := W) (by rw [hWe]; exact (hAP.2.mono (fun k hk => .inl (.inl hk))).setCell (.inl (.inr rfl)) _) (fun k hk h => HLK.out k h) (by rw [hWe]; exact HPUT.out oki W0 v1 (bi (l ++ data)) hAP.2 (fun k _ h => h) hAP.1))
                have HFR9 : Aside0 (Fr No w W) := ⟨HF5.out.trans (by rw [hWe]; exact (hAP.2.mono (S2 := fun k => oki k ∨ k = gb) (fun k hk => .inl (.inl hk))).setCell (.inl (.inr rfl)) _ : Fr (fun k => oki k ∨ k = gb) w5 W) (fun b hb => .inr (HLK2.out b hb))⟩
                have HNEW : Aside0 (StrI w ss W (.slice (some ⟨ga, 0, none⟩) n ca) (.slice (some ⟨gb, 0, none⟩) n cb) (k + 1) n) := ⟨⟨⟨_, _, by rw [List.length_set]; exact HNL.out, HST9.out, fun h hh => by
                  rcases List.mem_or_eq_of_mem_set hh with hh | rfl
                  · exact HBK2.out h hh
                  · show (l ++ data).length ≤ _; rw [List.length_append]; exact HLEN.out⟩, HFR9.out⟩⟩
                clear hWe hAP
                go_wp2_with fail
                exact ⟨⟨k + 1, n, ga, ca, gb, cb, by omega, hn1, hn64, rfl, rfl, by go_num, HNEW⟩, by simp [intOf]; omega⟩
        by_cases k3 : kd = 3
        · subst k3
          clear k1 k4 k2 k1b k4b
          have hp1 := HS1.out.ptrAt HNL.out x hxh
          obtain ⟨rv, hH, _⟩ := HS1.out.hash x hxh
          have HH := Aside0.mk hH
          have HSR := Aside0.mk (HS1.out.relabTo 1000)
          have HLX : Aside0 ((hs[x]'hxh).2.length ≤ 1048576) := ⟨by have := HBK2.out _ (List.getElem_mem hxh); have := HBT.out; omega⟩
          have HDL := Aside0.mk (sha_length (hs[x]'hxh).2)
          clear hH
          go_wp2_with fail
          refine (sumX_calls W1 _ _ rv HH.out (HT.out.1.fr HF1.out id) (by have := HLX.out; omega)).mono ?_
          rintro e w3 ⟨v, rfl, hm, hf⟩
          have HD := Aside0.mk hm; have HF3 := Aside0.mk (HF1.out.then_ hf); have HG := Aside0.mk hf
          obtain ⟨gd, cd, hv, hgd, _⟩ := Kd.R_form hm (by rw [bi_length, HDL.out]; decide)
          rw [bi_length] at hv
          subst hv
          obtain ⟨Ai, ci, hcx, hci, hrx⟩ := rows_at (held_rows (HS1.out.frN hf).held) x (by rw [List.length_map]; exact hxh)
          simp only [List.getElem_map] at hcx hci hrx
          have HRX := Aside0.mk hrx
          have HGD := Aside0.mk hgd
          clear hm hf hrx hgd hp1 hb0 hb2
          generalize (hs[x]'hxh).2 = l at *
          go_wp2_with fail
          refine (refSumX_calls l _ _ w3 HRX.out (by have := HLX.out; omega) (HT.out.2.2.fr HF3.out id)).mono ?_
          rintro e w4 ⟨v, rfl, hm, hf⟩
          obtain ⟨E, ce, rfl, hce, hre⟩ := hm.reads
          have HE := Aside0.mk hre; have HD4 := Aside0.mk (HD.out.fr' hf (fun _ _ => id)); have HG4 := Aside0.mk (HG.out.then_ hf)
          have HDR4 : Aside0 (Rb w4 (some ⟨gd, 0, none⟩) (sha l)) := ⟨by
            obtain ⟨A9, c9, e9, _, h9⟩ := HD4.out.reads
            obtain ⟨rfl, _⟩ : some (⟨gd, 0, none⟩ : Addr) = A9 ∧ cd = c9 := by simpa using e9
            exact h9⟩
          clear hm hf hre hce hcx
          generalize sha l = d at *
          go_wp2_with fail
          refine (same_calls d d _ _ _ _ _ HDR4.out HE.out).mono ?_
          rintro e w5 ⟨rfl, rfl⟩
          rw [decide_eq_true rfl]
          have HBL : Aside0 ((bi d).length = 32) := ⟨by rw [bi_length, HDL.out]⟩
          rw [HDL.out] at HD4 ⊢
          go_wp2_with fail
          obtain ⟨wx, rfl⟩ : ∃ wx, wx = w4 := ⟨_, rfl⟩
          go_loopw [14] (fun i wr => ∃ (j : Nat) (xs : List Int), j ≤ 32 ∧ i = .int .i64 j ∧ Aside0 (Kd.R (Kd.int .u8) 5 wr W1.heap.size (fun _ => True) (.slice (some ⟨gd, 0, none⟩) 32 cd) xs) ∧ Aside0 (Fr (fun k => k = gd) wx wr)) (fun i _ => 32 - (intOf i).toNat)
          case atStart => exact ⟨0, bi d, by omega, rfl, HD4, ⟨Fr.refl _ _⟩⟩
          case round =>
            clear HD4 HD
            obtain ⟨j, xs, hj, rfl, HX, HFG⟩ := hrel
            by_cases hlj : j < 32
            · obtain ⟨hc9, hfz⟩ := Kd.R_celln (0 : Int) HX.out (j : Int) (by omega) (by omega)
              simp only [Int.toNat_natCast] at hc9 hfz
              have HP := Aside0.mk (Kd.R_putn HX.out (j : Int) (9 : Int))
              simp only [Int.toNat_natCast] at HP
              go_wp2_with fail
              exact ⟨⟨j + 1, _, by omega, by go_num, HP, ⟨HFG.out.setCell (.inl rfl) _⟩⟩, by simp [intOf]; omega⟩
            · have HNEW : Aside0 (StrI w ss wr (.slice (some ⟨ga, 0, none⟩) n ca) (.slice (some ⟨gb, 0, none⟩) n cb) (k + 1) n) := ⟨⟨⟨hs, _, HNL.out, (HSR.out.frN HG4.out).fr HFG.out (fun q hq e => by
                subst e
                rw [if_neg (by have := HGD.out; omega), HNL.out]; omega), HBK2.out⟩, (HF1.out.then_ HG4.out).trans HFG.out (fun b hb => .inr (by subst hb; have := HGD.out; have := HF1.out.size; omega))⟩⟩
              go_wp2_with fail
              exact ⟨⟨k + 1, n, ga, ca, gb, cb, by omega, hn1, hn64, rfl, rfl, by go_num, HNEW⟩, by simp [intOf]; omega⟩
        have k2b : (kd == 2) = false := beq_eq_false_iff_ne.2 k2
        have k3b : (kd == 3) = false := beq_eq_false_iff_ne.2 k3
        clear k1 k2 k3 k4
        go_wp2_with fail
        exact ⟨⟨k + 1, n, ga, ca, gb, cb, by omega, hn1, hn64, rfl, rfl, by go_num, HSAME⟩, by simp [intOf]; omega⟩
    · obtain rfl : k = ss.length := by omega
      go_wp2_with fail
      obtain ⟨wx, rfl⟩ : ∃ wx, wx = wr := ⟨_, rfl⟩
      go_loopw [15] (fun i wr => ∃ j : Nat, j ≤ n ∧ i = .int .i64 j ∧ Aside0 (StrI w ss wr (.slice (some ⟨ga, 0, none⟩) n ca) (.slice (some ⟨gb, 0, none⟩) n cb) ss.length n)) (fun i _ => n - (intOf i).toNat)
      case atStart => exact ⟨0, by omega, rfl, HI⟩
      case round =>
        clear HI
        obtain ⟨j, hj, rfl, HI⟩ := hrel
        have HF := Aside0.mk HI.out.fr
        by_cases hlj : j < n
        · obtain ⟨hs, lab, hn0, hS0, hBD0⟩ := HI.out.out
          have hjh : j < hs.length := by rw [hn0]; exact hlj
          have hp1 := hS0.ptrAt hn0 j hjh
          obtain ⟨rv, hH, _⟩ := hS0.hash j hjh
          have HH := Aside0.mk hH; have HS := Aside0.mk hS0
          have HLX : Aside0 ((hs[j]'hjh).2.length ≤ 1048576) := ⟨by have := hBD0 _ (List.getElem_mem hjh); rw [List.take_length] at this; have := HB.out; omega⟩
          have HDL := Aside0.mk (sha_length (hs[j]'hjh).2)
          clear hn0 hS0 hBD0 hH
          have hji : (j : Int) < (n : Int) := by omega
          go_wp2_with fail
          refine (sumX_calls wr _ _ rv HH.out (HT.out.1.fr HF.out id) (by have := HLX.out; omega)).mono ?_
          rintro e w3 ⟨v, rfl, hm, hf⟩
          obtain ⟨D, cd, rfl, hcd, hrd⟩ := hm.reads
          have HD := Aside0.mk hrd; have HF3 := Aside0.mk (HF.out.then_ hf); have HG := Aside0.mk hf
          obtain ⟨Ai, ci, hcx, hci, hrx⟩ := rows_at (held_rows (HS.out.frN hf).held) j (by rw [List.length_map]; exact hjh)
          simp only [List.getElem_map] at hcx hci hrx
          have HRX := Aside0.mk hrx
          clear hm hf hrd hrx hcd hp1
          generalize (hs[j]'hjh).2 = l at *
          go_wp2_with fail
          refine (refSumX_calls l _ _ w3 HRX.out (by have := HLX.out; omega) (HT.out.2.2.fr HF3.out id)).mono ?_
          rintro e w4 ⟨v, rfl, hm, hf⟩
          obtain ⟨E, ce, rfl, hce, hre⟩ := hm.reads
          have HE := Aside0.mk hre; have HD4 := Aside0.mk (C_fr HD.out hf); have HG4 := Aside0.mk (HG.out.then_ hf)
          clear hm hf hre hce hcx
          generalize sha l = d at *
          go_wp2_with fail
          refine (same_calls d d _ _ _ _ _ HD4.out HE.out).mono ?_
          rintro e w5 ⟨rfl, rfl⟩
          rw [decide_eq_true rfl]
          go_wp2_with fail
          exact ⟨⟨j + 1, by omega, by go_num, ⟨HI.out.frN HG4.out⟩⟩, by simp [intOf]; omega⟩
        · go_wp2_with fail
          go_ret
          exact ⟨rfl, HF.out⟩
end Go.Proofs.YtbaeddppihjgfaaDoor.Sg
