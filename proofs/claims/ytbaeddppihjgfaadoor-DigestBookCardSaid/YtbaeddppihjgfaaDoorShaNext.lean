/- The walks of the schedule's making, of a block's words and of the state behind a block. -/
import Derived.Test.YtbaeddppihjgfaaDoorShaSched
import Derived.Laws.Rows
namespace Go.Proofs.YtbaeddppihjgfaaDoor.Sg
open Go Go.RowKit Go.Proofs.YtbaeddppihjgfaaDoorW.PrintWords
set_option linter.unusedVariables false
attribute [local go_sem] u_signed u_xor u_and u_or u_add u_add' u_not u_div8 u_div1024 u_wrap u_wrap'
def words16 (m : Nat → W) : Array Value := #[.int .u32 (un (m 0)), .int .u32 (un (m 1)), .int .u32 (un (m 2)), .int .u32 (un (m 3)), .int .u32 (un (m 4)), .int .u32 (un (m 5)), .int .u32 (un (m 6)), .int .u32 (un (m 7)), .int .u32 (un (m 8)), .int .u32 (un (m 9)), .int .u32 (un (m 10)), .int .u32 (un (m 11)), .int .u32 (un (m 12)), .int .u32 (un (m 13)), .int .u32 (un (m 14)), .int .u32 (un (m 15))]
theorem ringL_zero (m : Nat → W) : (ringL m 0).toArray = words16 m := by
  have h : ∀ j, j < 16 → ringAt m 0 j = m j := fun j hj => by unfold ringAt; rw [if_pos (by decide), wt_low _ _ hj]
  unfold ringL words16
  simp only [show List.range 16 = [0, 1, 2, 3, 4, 5, 6, 7, 8, 9, 10, 11, 12, 13, 14, 15] from rfl, List.map_cons, List.map_nil]
  rw [h 0 (by decide), h 1 (by decide), h 2 (by decide), h 3 (by decide), h 4 (by decide), h 5 (by decide), h 6 (by decide), h 7 (by decide), h 8 (by decide), h 9 (by decide), h 10 (by decide), h 11 (by decide), h 12 (by decide), h 13 (by decide), h 14 (by decide), h 15 (by decide)]
theorem ring_new (m : Nat → W) (w : World) (o : Obj) : Ring ((w.alloc (.cells (words16 m) 88)).alloc o) w.heap.size m 0 := by
  have h : (w.alloc (.cells (words16 m) 88)).heap[w.heap.size]? = some (.cells (words16 m) 88 (0, 0)) := heap_alloc_new w _
  refine Ring.fr (w := w.alloc (.cells (words16 m) 88)) ?_ ((Fr.refl No _).alloc o) id
  unfold Ring
  rw [h, ringL_zero]
theorem cnt_new (w : World) (c : Array Value) : Cnt ((w.alloc (.cells c 88)).alloc (.cells #[.int .i64 (-1)] 3)) (w.heap.size + 1) 0 := by
  have h := heap_alloc_new (w.alloc (.cells c 88)) (.cells #[.int .i64 (-1)] 3)
  unfold Cnt
  simpa using h
set_option maxRecDepth 100000 in
set_option maxHeartbeats 1000000 in
theorem schedule_calls (m : Nat → W) (w : World) :
    Calls Tryd.prog 80 #[.agg (words16 m)] w fun e w' => e = .returned (.func (Fn.func 84) #[] #[.pointer (some ⟨w.heap.size + 1, 0, none⟩), .pointer (some ⟨w.heap.size, 0, none⟩)]) ∧ Ring w' w.heap.size m 0 ∧ Cnt w' (w.heap.size + 1) 0 ∧ Fr No w w' := by
  have HR := Aside0.mk (ringL_zero m)
  go_enter Tryd.func80, Tryd.ntmps80
  unfold words16
  go_wp2
  go_ret
  exact ⟨rfl, ring_new m w _, cnt_new w _, ((Fr.refl No w).alloc _).alloc _⟩
def KAt (w : World) : Prop := ∀ j, j < 64 → w.cell? ⟨3, j, none⟩ = some (.int .u32 (un (kL.getD j 0)))
theorem KAt.fr {S : Nat → Prop} {w w' : World} (h : KAt w) (hf : Fr S w w') (hn : ¬ S 3) : KAt w' := fun j hj => hf.cell (h j hj) hn
theorem KAt.lt {w : World} (h : KAt w) : 3 < w.heap.size := World.block_lt_of_cell? w _ (h 0 (by decide))
def state8 (s : S8) : Array Value := #[.int .u32 (un s.a), .int .u32 (un s.b), .int .u32 (un s.c), .int .u32 (un s.d), .int .u32 (un s.e), .int .u32 (un s.f), .int .u32 (un s.g), .int .u32 (un s.h)]
def zero8 : Array Value := #[.int .u32 0, .int .u32 0, .int .u32 0, .int .u32 0, .int .u32 0, .int .u32 0, .int .u32 0, .int .u32 0]
theorem next_world (w : World) (s : S8) (m : Nat → W) : ∃ W0, W0 = (((w.alloc (.cells (state8 s) 84)).alloc (.cells (words16 m) 88)).alloc (.cells zero8 84)).alloc (.cells (state8 s) 84) ∧
    St8 W0 w.heap.size 84 s ∧ St8 W0 (w.heap.size + 3) 84 s ∧ W0.heap[w.heap.size + 2]? = some (.cells zero8 84 (0, 0)) ∧ W0.heap.size = w.heap.size + 4 ∧ Fr No w W0 := by
  generalize h1 : w.alloc (.cells (state8 s) 84) = w1
  have f1 : Fr No w w1 := by rw [← h1]; exact (Fr.refl No w).alloc _
  have z1 : w1.heap.size = w.heap.size + 1 := by rw [← h1]; simp
  have b1 : St8 w1 w.heap.size 84 s := by rw [← h1]; exact heap_alloc_new w _
  generalize h2 : w1.alloc (.cells (words16 m) 88) = w2
  have f2 : Fr No w1 w2 := by rw [← h2]; exact (Fr.refl No w1).alloc _
  have z2 : w2.heap.size = w1.heap.size + 1 := by rw [← h2]; simp
  generalize h3 : w2.alloc (.cells zero8 84) = w3
  have f3 : Fr No w2 w3 := by rw [← h3]; exact (Fr.refl No w2).alloc _
  have z3 : w3.heap.size = w2.heap.size + 1 := by rw [← h3]; simp
  have b3 : w3.heap[w2.heap.size]? = some (.cells zero8 84 (0, 0)) := by rw [← h3]; exact heap_alloc_new w2 _
  generalize h4 : w3.alloc (.cells (state8 s) 84) = w4
  have f4 : Fr No w3 w4 := by rw [← h4]; exact (Fr.refl No w3).alloc _
  have z4 : w4.heap.size = w3.heap.size + 1 := by rw [← h4]; simp
  have b4 : St8 w4 w3.heap.size 84 s := by rw [← h4]; exact heap_alloc_new w3 _
  refine ⟨w4, rfl, ?_, ?_, ?_, by omega, ((f1.then_ f2).then_ f3).then_ f4⟩
  · exact ((f2.then_ f3).then_ f4).heap b1 id
  · rw [show w.heap.size + 3 = w3.heap.size by omega]; exact b4
  · rw [show w.heap.size + 2 = w2.heap.size by omega]; exact f4.heap b3 id
def kA : Array Value := (kL.map fun x => Value.int .u32 (un x)).toArray
theorem kA_size : kA.size = 64 := by unfold kA; simp; rfl
theorem kA_at (j : Nat) (hj : j < 64) : kA[j]? = some (.int .u32 (un (kL.getD j 0))) := by
  have : j < kL.length := hj
  unfold kA
  simp [List.getD_eq_getElem?_getD, List.getElem?_eq_getElem this]
theorem run_index_part {P : Program} (t e : TypeId) (n : Nat) (cs : Array Value) (i : Nat) (v : Value) (d : TypeDesc) (hi : i < n) (h : P.underlying t = some (.array n e)) (he : P.underlying e = some d)
    (hd : (match d with | .struct _ | .array _ _ => true | _ => false) = false) (hz : (P.info? e).map (·.size) = some 1) (hv : cs[i]? = some v) (w : World) : (Instr.index t (.agg cs) (.int .i64 (i : Int))).run P w = .ok v w := by
  have hagg : (isAgg e).run P w = .ok false w := by
    unfold isAgg
    rw [Sem.run_bind, run_underlying he w]
    cases d <;> simp_all
  cases hq : P.info? e with
  | none => simp [hq] at hz
  | some j =>
    have hs : j.size = 1 := by simpa [hq] using hz
    have hlt : (0 : Int) ≤ (i : Int) ∧ (i : Int) < (n : Int) := by omega
    simp [Instr.index, run_underlying h, asIntOf, hi, sizeOf, typeInfo, hq, hs, part, Sem.run_bind, hagg, hv]
theorem run_loadVar_cells {P : Program} (w : World) (a : Addr) (ty : TypeId) (cs : Array Value) (d : TypeDesc) (hg : ∀ j v, cs.toList[j]? = some v → w.cell? (a.add j) = some v)
    (hu : P.underlying ty = some d) (hd : (match d with | .struct _ | .array _ _ => true | _ => false) = true) (hi : (P.info? ty).map (·.size) = some cs.size) :
    (loadVar ty a).run P w = .ok (.agg cs) w := by
  have hl : (loadCells a cs.toList.length).run P w = .ok cs.toList.toArray w := run_loadCells_list (P := P) w a cs.toList hg
  cases hq : P.info? ty with
  | none => simp [hq] at hi
  | some i =>
    have hs : i.size = cs.size := by simpa [hq] using hi
    have hagg : (isAgg ty).run P w = .ok true w := by
      unfold isAgg
      rw [Sem.run_bind, run_underlying hu w]
      cases d <;> simp_all
    simp only [Array.length_toList, Array.toArray_toList] at hl
    simp [loadVar, Sem.run_bind, hagg, sizeOf, typeInfo, hq, hs, hl]
theorem wpList_load_cells {P : Program} {ops : Array Oper} {rest : List Oper} {o : Oper} {a : Act} {w : World} {Q : Exit → Act → World → Prop} (hgd : o.guard = none) (ty : TypeId) (x : Operand) (ho : o.op = .load ty x)
    (ad : Addr) (hx : a.eval x = .pointer (some ad)) (cs : Array Value) (d : TypeDesc) (hg : ∀ j v, cs.toList[j]? = some v → w.cell? (ad.add j) = some v)
    (hu : P.underlying ty = some d) (hd : (match d with | .struct _ | .array _ _ => true | _ => false) = true) (hi : (P.info? ty).map (·.size) = some cs.size)
    (h : wpList P ops Q rest (a.put o.dst (.agg cs)) w) : wpList P ops Q (o :: rest) a w :=
  wpList_plain hgd fun _ hK => by
    unfold Oper.wp execOp
    simp only [ho, hx, Instr.loadAt, Instr.sureAddr, Sem.run_bind, Sem.run_pure, Result.andThen_ok, run_loadVar_cells w ad ty cs d hg hu hd hi]
    exact hK _ _ h
theorem KAt.cells {w : World} (h : KAt w) : ∀ j v, kA.toList[j]? = some v → w.cell? ((⟨3, 0, none⟩ : Addr).add j) = some v := by
  intro j v hv
  have hj : j < 64 := by
    have := (List.getElem?_eq_some_iff.1 hv).1
    rw [Array.length_toList, kA_size] at this
    exact this
  have hadd : (⟨3, 0, none⟩ : Addr).add j = ⟨3, j, none⟩ := by unfold Addr.add; split <;> simp_all
  rw [hadd, h j hj, ← kA_at j hj, ← Array.getElem?_toList]
  exact hv
/-- The ending of a walk's loop that adds the rounds' words. -/
def mixL (s v : S8) (t : Nat) : List Value := (List.range 8).map fun j => .int .u32 (un (if j < t then (addS s v).list.getD j 0 else s.list.getD j 0))
def Mix (w : World) (g : Nat) (s v : S8) (t : Nat) : Prop := w.heap[g]? = some (.cells (mixL s v t).toArray 84 (0, 0))
section
variable {w : World} {g t : Nat} {s v : S8}
theorem Mix.cell (h : Mix w g s v t) (ht : t < 8) : w.cell? ⟨g, t, none⟩ = some (.int .u32 (un (s.list.getD t 0))) := by
  have hb : w.heap[g]? = some (.cells (mixL s v t).toArray 84 (0, 0)) := h
  simp [World.cell?, hb, mixL, ht]
theorem Mix.free (h : Mix w g s v t) (j : Nat) : w.frozen? ⟨g, j, none⟩ = false := by
  have hb : w.heap[g]? = some (.cells (mixL s v t).toArray 84 (0, 0)) := h
  simp [World.frozen?, hb]
theorem addS_at (s v : S8) (t : Nat) (ht : t < 8) : (addS s v).list.getD t 0 = s.list.getD t 0 + v.list.getD t 0 := by
  match t, ht with
  | 0, _ => rfl
  | 1, _ => rfl
  | 2, _ => rfl
  | 3, _ => rfl
  | 4, _ => rfl
  | 5, _ => rfl
  | 6, _ => rfl
  | 7, _ => rfl
theorem Mix.set (h : Mix w g s v t) (ht : t < 8) : Mix (w.setCell ⟨g, t, none⟩ (.int .u32 (un (s.list.getD t 0 + v.list.getD t 0)))) g s v (t + 1) := by
  have hb : w.heap[g]? = some (.cells (mixL s v t).toArray 84 (0, 0)) := h
  refine blk_put hb _ _ ?_
  apply Array.ext
  · simp [mixL]
  · intro i h1 h2
    have hi : i < 8 := by simpa [mixL] using h2
    simp only [List.setIfInBounds_toArray, List.getElem_toArray]
    rw [List.getElem_set]
    simp only [mixL, List.getElem_map, List.getElem_range]
    by_cases e : t = i
    · subst e
      rw [if_pos rfl, if_pos (by omega), addS_at s v t ht]
    · rw [if_neg e]
      by_cases e2 : i < t
      · rw [if_pos e2, if_pos (by omega)]
      · rw [if_neg e2, if_neg (by omega)]
theorem St8.cellAt (h : St8 w g 84 s) (ht : t < 8) : w.cell? ⟨g, t, none⟩ = some (.int .u32 (un (s.list.getD t 0))) := by
  have hb : w.heap[g]? = some _ := h
  match t, ht with
  | 0, _ => simp [World.cell?, hb, S8.list]
  | 1, _ => simp [World.cell?, hb, S8.list]
  | 2, _ => simp [World.cell?, hb, S8.list]
  | 3, _ => simp [World.cell?, hb, S8.list]
  | 4, _ => simp [World.cell?, hb, S8.list]
  | 5, _ => simp [World.cell?, hb, S8.list]
  | 6, _ => simp [World.cell?, hb, S8.list]
  | 7, _ => simp [World.cell?, hb, S8.list]
theorem mix_zero (h : St8 w g 84 s) : Mix w g s v 0 := by
  have hb : w.heap[g]? = some _ := h
  unfold Mix
  rw [hb]
  rfl
theorem mix_all (h : Mix w g s v 8) : w.heap[g]? = some (.cells (state8 (addS s v)) 84 (0, 0)) := h
end
set_option maxRecDepth 100000 in
set_option maxHeartbeats 4000000 in
theorem next_calls (s : S8) (m : Nat → W) (w : World) (hK : KAt w) :
    Calls Tryd.prog 58 #[.agg (state8 s), .agg (words16 m)] w fun e w' => e = .returned (.agg (state8 (comp s m))) ∧ Fr No w w' := by
  have HK := Aside0.mk hK
  clear hK
  obtain ⟨W0, hW0, h1, h2, h3, h4, h5⟩ := next_world w s m
  have HS := Aside0.mk h1; have HV := Aside0.mk h2; have HZ := Aside0.mk h3; have HSZ := Aside0.mk h4; have HF := Aside0.mk h5
  have HW0 := Aside0.mk hW0
  clear h1 h2 h3 h4 h5 hW0
  go_enter Tryd.func58, Tryd.ntmps58
  generalize hpost : Value.agg (state8 (comp s m)) = POST
  unfold state8 words16
  go_wp2_with fail
  have hW := HW0.out
  unfold state8 words16 zero8 at hW
  rw [← hW]
  clear hW HW0
  refine (schedule_calls m _).mono ?_
  rintro e w1 ⟨rfl, hr, hc, hf⟩
  have HR1 := Aside0.mk hr; have HC1 := Aside0.mk hc
  have HF1 : Aside0 (Fr No w w1) := ⟨HF.out.then_ hf⟩
  have HS1 : Aside0 (St8 w1 w.heap.size 84 s) := ⟨hf.heap HS.out id⟩
  have HV1 : Aside0 (St8 w1 (w.heap.size + 3) 84 s) := ⟨hf.heap HV.out id⟩
  have HZ1 : Aside0 (w1.heap[w.heap.size + 2]? = some (.cells zero8 84 (0, 0))) := ⟨hf.heap HZ.out id⟩
  have HK1 : Aside0 (KAt w1) := ⟨(HK.out.fr HF1.out id)⟩
  have HSZ1 : Aside0 (W0.heap.size = w.heap.size + 4) := HSZ
  clear hr hc hf HS HV HZ HF HSZ
  have ek := kA_size
  go_wp2_with (refine wpList_load_cells rfl _ _ rfl ⟨3, 0, none⟩ rfl kA (.array 64 76) HK1.out.cells rfl rfl (by rw [kA_size]; rfl) ?_)
  clear ek
  go_loopw [16] (fun i wr => ∃ k : Nat, k ≤ 64 ∧ i = .int .i64 k ∧ Aside0 (St8 wr (w.heap.size + 3) 84 (rnds s m k)) ∧ Aside0 (Ring wr W0.heap.size m k) ∧ Aside0 (Cnt wr (W0.heap.size + 1) k) ∧ Aside0 (Fr No w wr) ∧ Aside0 (St8 wr w.heap.size 84 s) ∧ Aside0 (wr.heap[w.heap.size + 2]? = some (.cells zero8 84 (0, 0)))) (fun i _ => 64 - (intOf i).toNat)
  case atStart => exact ⟨0, by omega, rfl, HV1, HR1, HC1, HF1, HS1, HZ1⟩
  case round =>
    clear HV1 HR1 HC1 HF1 HS1 HZ1 HK1
    obtain ⟨k, hk, rfl, HV, HR, HC, HF, HS, HZ⟩ := hrel
    by_cases hlt : k < 64
    · have hix := run_index_part (P := Tryd.prog) 110 76 64 kA k _ (.int .u32) hlt rfl rfl rfl rfl (kA_at k hlt)
      generalize hKA : kA = KA
      rw [hKA] at hix
      generalize hkk : kL.getD k 0 = kk
      rw [hkk] at hix
      go_wp2_with fail
      refine (word_calls m k hlt _ _ _ HR.out HC.out (by omega)).mono ?_
      rintro e w2 ⟨rfl, hr, hc, hf⟩
      have HR2 := Aside0.mk hr; have HC2 := Aside0.mk hc
      have HV2 : Aside0 (St8 w2 (w.heap.size + 3) 84 (rnds s m k)) := ⟨hf.heap HV.out (by have := HSZ1.out; omega)⟩
      have HS2 : Aside0 (St8 w2 w.heap.size 84 s) := ⟨hf.heap HS.out (by have := HSZ1.out; omega)⟩
      have HZ2 : Aside0 (w2.heap[w.heap.size + 2]? = some (.cells zero8 84 (0, 0))) := ⟨hf.heap HZ.out (by have := HSZ1.out; omega)⟩
      have HF2 : Aside0 (Fr No w w2) := ⟨HF.out.trans hf (fun j hj => .inr (by have := HSZ1.out; omega))⟩
      clear hr hc hf HV HR HC HF HS HZ
      go_wp2_with fail
      refine (round_calls (rnds s m k) kk (wt m k) (w.heap.size + 3) _ HV2.out).mono ?_
      rintro e w3 ⟨rfl, hv, hf⟩
      go_wp2
      refine ⟨?_, by simp [intOf]; omega⟩
      · refine ⟨k + 1, by omega, by go_num, ⟨?_⟩, ⟨HR2.out.fr hf (by have := HSZ1.out; omega)⟩, ⟨HC2.out.fr hf (by have := HSZ1.out; omega)⟩, ⟨HF2.out.trans hf (fun j hj => .inr (by omega))⟩, ⟨hf.heap HS2.out (by omega)⟩, ⟨hf.heap HZ2.out (by omega)⟩⟩
        rw [rnds, hkk]
        exact hv
    · obtain rfl : k = 64 := by omega
      generalize hv : rnds s m 64 = v
      rw [hv] at HV
      clear HR HC HSZ1
      generalize hKA : kA = KA
      go_wp2_with fail
      go_loopw [25] (fun i wr => ∃ k : Nat, k ≤ 8 ∧ i = .int .i64 k ∧ Aside0 (Mix wr w.heap.size s v k) ∧ Aside0 (St8 wr (w.heap.size + 3) 84 v) ∧ Aside0 (Fr No w wr) ∧ Aside0 (wr.heap[w.heap.size + 2]? = some (.cells zero8 84 (0, 0)))) (fun i _ => 8 - (intOf i).toNat)
      case atStart => exact ⟨0, by omega, rfl, ⟨mix_zero HS.out⟩, HV, HF, HZ⟩
      case round =>
        clear HV HF HS HZ
        obtain ⟨k, hk, rfl, HM, HV, HF, HZ⟩ := hrel
        by_cases hlt : k < 8
        · have hc1 := HM.out.cell hlt
          have hc2 := HV.out.cellAt (t := k) hlt
          have HS := Aside0.mk (HM.out.set hlt)
          have hfz := HM.out.free k
          generalize s.list.getD k 0 = a at hc1 HS
          generalize v.list.getD k 0 = b at hc2 HS
          have hk0 : (0 : Int) ≤ (k : Int) := by omega
          have hk1 : (k : Int) < 8 := by omega
          have hHB : Aside0 (St8 wr.drew (w.heap.size + 3) 84 v) := ⟨HV.out⟩
          go_wp2_with fail
          go_region
          go_wp2
          refine ⟨⟨k + 1, by omega, by go_num, ⟨HS.out⟩, ⟨?_⟩, ⟨?_⟩, ⟨?_⟩⟩, by simp [intOf]; omega⟩
          · exact (((Fr.refl (fun j => j = w.heap.size) wr).drewN _).setCell (.inl rfl) _).heap HV.out (by omega)
          · exact (HF.out.drewN _).setCell (.inr (Nat.le_refl _)) _
          · exact (((Fr.refl (fun j => j = w.heap.size) wr).drewN _).setCell (.inl rfl) _).heap HZ.out (by omega)
        · obtain rfl : k = 8 := by omega
          have hb := mix_all HM.out
          have hz := HZ.out
          clear HM HV HZ
          have hcv : addS s v = comp s m := by unfold comp; rw [hv]
          rw [hcv] at hb
          clear hcv
          generalize comp s m = q at hpost hb
          subst hpost
          have hfz : ∀ j, wr.frozen? ⟨w.heap.size + 1 + 1, j, none⟩ = false := fun j => by simp [World.frozen?, hz]
          have hc0 : ∀ j, j < 8 → wr.cell? ⟨w.heap.size + 1 + 1, j, none⟩ = some (.int .u32 0) := fun j hj => by
            match j, hj with
            | 0, _ => simp [World.cell?, hz, zero8]
            | 1, _ => simp [World.cell?, hz, zero8]
            | 2, _ => simp [World.cell?, hz, zero8]
            | 3, _ => simp [World.cell?, hz, zero8]
            | 4, _ => simp [World.cell?, hz, zero8]
            | 5, _ => simp [World.cell?, hz, zero8]
            | 6, _ => simp [World.cell?, hz, zero8]
            | 7, _ => simp [World.cell?, hz, zero8]
          have hd0 := hc0 0 (by decide)
          have hd1 := hc0 1 (by decide)
          have hd2 := hc0 2 (by decide)
          have hd3 := hc0 3 (by decide)
          have hd4 := hc0 4 (by decide)
          have hd5 := hc0 5 (by decide)
          have hd6 := hc0 6 (by decide)
          have hd7 := hc0 7 (by decide)
          clear hc0
          replace hb := Aside0.mk hb
          unfold zero8 at hz
          have HS := Aside0.mk (set8 (g := w.heap.size + 1 + 1) hz (u0 := .int .u32 (un q.a)) (u1 := .int .u32 (un q.b)) (u2 := .int .u32 (un q.c)) (u3 := .int .u32 (un q.d)) (u4 := .int .u32 (un q.e)) (u5 := .int .u32 (un q.f)) (u6 := .int .u32 (un q.g)) (u7 := .int .u32 (un q.h)))
          clear hz
          unfold state8 at *
          have HFE := Aside0.mk (HF.out.set8 (g := w.heap.size + 1 + 1) (.inr (by omega)) (.int .u32 (un q.a)) (.int .u32 (un q.b)) (.int .u32 (un q.c)) (.int .u32 (un q.d)) (.int .u32 (un q.e)) (.int .u32 (un q.f)) (.int .u32 (un q.g)) (.int .u32 (un q.h)))
          go_wp2_with (refine wpList_load_row rfl _ _ rfl w.heap.size rfl 84 _ _ (.array 8 76) hb.out rfl rfl rfl ?_)
          generalize hwe : World.setCell _ _ _ = we at HS HFE ⊢
          try simp only [Exit.inBlock, Exit.then]
          refine bodyPost_ret (results_cell_row rfl _ we (w.heap.size + 1 + 1) 84 _ _ (.array 8 76) rfl HS.out rfl rfl rfl) rfl ?_
          exact ⟨rfl, HFE.out⟩
end Go.Proofs.YtbaeddppihjgfaaDoor.Sg
